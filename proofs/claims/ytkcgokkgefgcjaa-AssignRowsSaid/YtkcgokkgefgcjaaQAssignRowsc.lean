/- What the proof of the law AssignRows needs, cut out of the session's own texts by a program (slim.py): part 3. -/
import Derived.Test.YtkcgokkgefgcjaaQAssignRowsb
section
namespace Go.Proofs.Ytkcgokkgefgcjaa.H
open Go.RowKit Go.MapKept
set_option linter.unusedVariables false
set_option linter.unusedSimpArgs false
variable {P : Program} {s : HS}
def IsTok : HObj → Prop
  | .tok _ _ _ => True
  | _ => False
/-- But for a token, all that t knows t' knows. -/
structure Near (idl : Nat) (t t' : HS) : Prop where
  tok : ∀ ob, t idl = some ob → IsTok ob
  rest : ∀ k ob, k ≠ idl → t k = some ob → t' k = some ob
theorem Near.ob {idl : Nat} {t t' : HS} (h : Near idl t t') {k : Nat} {ob : HObj} (hk : t k = some ob) (ho : ¬ IsTok ob) : t' k = some ob :=
  h.rest k ob (by rintro rfl; exact ho (h.tok _ hk)) hk
theorem Near.cells {idl : Nat} {t t' : HS} (h : Near idl t t') {k : Nat} {cs : List HV} (hk : t k = some (.cells cs)) : t' k = some (.cells cs) := h.ob hk (fun h => h)
theorem Near.map {idl : Nat} {t t' : HS} (h : Near idl t t') {k : Nat} {d : TypeDesc} {f : Value → Option HV} {n : Nat} (hk : t k = some (.map d f n)) : t' k = some (.map d f n) := h.ob hk (fun h => h)
theorem Near.le {idl : Nat} {b t t' : HS} (h : Near idl t t') (hb : HS.le b t) (hn : b idl = none) : HS.le b t' := fun k ob hk => h.rest k ob (by rintro rfl; rw [hn] at hk; cases hk) (hb k ob hk)
theorem Near.acc {idl : Nat} {b t t' : HS} {sz : Nat} {A : HV} {n : Nat} {cs : List HV} (h : Near idl t t') (ha : Acc b t sz A n cs) : Acc b t' sz A n cs := ha.keep fun q ob hq hob => by
  have := (ha.free hq).2
  rw [hob] at this
  cases this
  exact h.cells hob
/-- What a round is given may be told otherwise. -/
theorem HY.upArgs {id : Nat} {args args' : List HV} {s s' : HS} {K : HV → HS → Prop} (hu : UpL args s args' s') (h : HY P id args' s' K) : HY P id args s K := by
  intro m w cargs l hR hl hn ha
  obtain ⟨m', g1, g2, g3, g4⟩ := hu m w cargs.toList hR ⟨by simpa using hn, fun j x hj => by have := ha j x hj; simpa [List.getD, Array.getD_eq_getD_getElem?] using this⟩
  obtain ⟨fn, tmps, asg, body, h1, h2⟩ := h m' w cargs l g2 (g1.loc _ _ hl) (by simpa using g3) (fun j x hj => by have := g4 j x hj; simpa [List.getD, Array.getD_eq_getD_getElem?] using this)
  refine ⟨fn, tmps, asg, body, h1, RoundIn.mono h2 ?_⟩
  rintro e w' ⟨cv, v, s'', m'', k1, k2, k3, k4, k5⟩
  exact ⟨cv, v, s'', m'', k1, g1.trans k2, k3, k4, k5⟩
/-- Function f, which captures caps, gives yield the rows enc 0 .. enc (n-1), one behind the other, till it says no. -/
def Gives (P : Program) (f : FuncId) (caps : List HV) (n : Nat) (enc : Nat → List HV) (s : HS) : Prop :=
  ∀ (idl : Nat) (J : Nat → HS → Prop) (E : HS → Prop) (s' : HS), HS.le s s' → (∀ i t t', J i t → HS.le t t' → J i t') →
    (∀ (i : Nat) (t : HS) (K : HV → HS → Prop), i < n → J i t → (∀ t', J (i + 1) t' → K (.lit (.bool true)) t') → (∀ t', E t' → K (.lit (.bool false)) t') → HY P idl (enc i) t K) →
    J 0 s' → HC P f (.yld idl :: caps) s' fun v t => J n t ∨ E t
theorem Gives.le {f : FuncId} {caps : List HV} {n : Nat} {enc : Nat → List HV} {s' : HS} (h : Gives P f caps n enc s) (hle : HS.le s s') : Gives P f caps n enc s' :=
  fun idl J E s2 h2 => h idl J E s2 (fun k ob hk => h2 k ob (hle k ob hk))
theorem HRange.seq {f : FuncId} {caps env : List HV} {n n1 : Nat} {enc : Nat → List HV} {B : (HS → (HS → Prop) → Prop) → List HV → HS → (Exit → HS → Prop) → Prop} {Qn Qr : HS → Prop} {Qx : Nat → HS → Prop}
    (hp : plainFn P f = true) (it : Gives P f caps n enc s) (hl : ∀ i, i < n → (enc i).length = n1) (I : Nat → HS → Prop) (Er : HS → Prop) (Ex : Nat → HS → Prop)
    (hI : ∀ idl i t t', s idl = none → Near idl t t' → I i t → I i t') (hEr : ∀ idl t t', s idl = none → Near idl t t' → Er t → Er t') (hEx : ∀ idl i t t', s idl = none → Near idl t t' → Ex i t → Ex i t')
    (h0 : I 0 s) (hn : ∀ t, I n t → Qn t) (hr : ∀ t, Er t → Qr t) (hx : ∀ i t, Ex i t → Qx i t)
    (round : ∀ (i : Nat) (t : HS) (idl : Nat) (R0 R1 : HObj) (K : Exit → HS → Prop), i < n → s idl = none → t idl = some R0 → I i t → (∀ t', t' idl = some R1 → I (i + 1) t' → K .normal t') →
      (∀ t', t' idl = some R1 → Er t' → K .ret t') → (∀ j t', t' idl = some R1 → Ex j t' → K (.exit j) t') → IsTok R0 → IsTok R1 → B (fun t' G => t' idl = some R0 ∧ G (t'.set idl R1)) (enc i) t K) :
    HRange P (.func (.func f) caps) n1 env B s Qn Qr Qx := by
  unfold HRange
  simp only
  rw [hite_eq, if_pos hp]
  intro idl r hid hrounds
  have near : ∀ {t t' : HS} {st : Option (Option Code)}, t idl = some (.tok r env st) → (∀ k ob, k ≠ idl → t k = some ob → t' k = some ob) → Near idl t t' := fun h1 h2 => ⟨fun ob ho => by rw [h1] at ho; cases ho; exact True.intro, h2⟩
  have setN : ∀ (t : HS) (o : HObj) k ob, k ≠ idl → t k = some ob → (t.set idl o) k = some ob := fun t o k ob hk h => by simp only [HS.set, if_neg hk]; exact h
  have delN : ∀ (t : HS) k ob, k ≠ idl → t k = some ob → (t.del idl) k = some ob := fun t k ob hk h => by simp only [HS.del, if_neg hk]; exact h
  refine (it idl (fun i t => t idl = some (.tok r env (some none)) ∧ I i t) (fun t => (t idl = some (.tok r env (some (some .ret))) ∧ Er t) ∨ ∃ i, t idl = some (.tok r env (some (some (.exit i)))) ∧ Ex i t) (s.set idl (.tok r env (some none))) ?_ ?_ ?_ ?_).mono ?_
  · intro k ob hk
    exact setN s _ k ob (by rintro rfl; rw [hid] at hk; cases hk) hk
  · rintro i t t' ⟨h1, h2⟩ hle
    exact ⟨hle _ _ h1, hI idl i t t' hid (near h1 fun k ob _ hk => hle k ob hk) h2⟩
  · rintro i t K hi ⟨h1, h2⟩ hT hF
    refine hrounds (enc i) t K h1 (hl i hi) ?_
    refine round i t idl _ _ _ hi hid h1 h2 (fun t' g1 g2 => ⟨g1, ?_⟩) (fun t' g1 g2 => ⟨g1, ?_⟩) (fun j t' g1 g2 => ⟨g1, ?_⟩) True.intro True.intro
    · exact hT _ ⟨by simp [HS.set], hI idl _ _ _ hid (near g1 (setN t' _)) g2⟩
    · exact hF _ (.inl ⟨by simp [HS.set], hEr idl _ _ hid (near g1 (setN t' _)) g2⟩)
    · exact hF _ (.inr ⟨j, by simp [HS.set], hEx idl _ _ _ hid (near g1 (setN t' _)) g2⟩)
  · exact ⟨by simp [HS.set], hI idl 0 s _ hid ⟨fun ob ho => (by rw [hid] at ho; cases ho), setN s _⟩ h0⟩
  · rintro v t (⟨h1, h2⟩ | ⟨h1, h2⟩ | ⟨i, h1, h2⟩)
    · exact .inl ⟨h1, hn _ (hI idl _ _ _ hid (near h1 (delN t)) h2)⟩
    · exact .inr (.inl ⟨h1, hr _ (hEr idl _ _ hid (near h1 (delN t)) h2)⟩)
    · exact .inr (.inr ⟨i, h1, hx _ _ (hEx idl _ _ _ hid (near h1 (delN t)) h2)⟩)
/-- So does it, when what it reads lies still. -/
def GivesL (P : Program) (f : FuncId) (caps : List HV) (n : Nat) (enc : Nat → List HV) (s : HS) : Prop :=
  ∀ (idl : Nat) (J : Nat → HS → Prop) (E : HS → Prop) (s' : HS), HS.le s s' → (∀ i t t', J i t → HS.le t t' → J i t') → (∀ i t, J i t → HS.le s t) →
    (∀ (i : Nat) (t : HS) (K : HV → HS → Prop), i < n → J i t → (∀ t', J (i + 1) t' → K (.lit (.bool true)) t') → (∀ t', E t' → K (.lit (.bool false)) t') → HY P idl (enc i) t K) →
    J 0 s' → HC P f (.yld idl :: caps) s' fun v t => J n t ∨ E t
theorem Gives.toL {f : FuncId} {caps : List HV} {n : Nat} {enc : Nat → List HV} (h : Gives P f caps n enc s) : GivesL P f caps n enc s := fun idl J E s' h1 h2 _ h3 h4 => h idl J E s' h1 h2 h3 h4
theorem HRange.seqL {f : FuncId} {caps env : List HV} {n n1 : Nat} {enc : Nat → List HV} {B : (HS → (HS → Prop) → Prop) → List HV → HS → (Exit → HS → Prop) → Prop} {Qn Qr : HS → Prop} {Qx : Nat → HS → Prop}
    (hp : plainFn P f = true) {s0 : HS} (hs0 : HS.le s0 s) (it : GivesL P f caps n enc s0) (hl : ∀ i, i < n → (enc i).length = n1) (I : Nat → HS → Prop) (Er : HS → Prop) (Ex : Nat → HS → Prop)
    (hIs : ∀ i t, I i t → HS.le s0 t) (hI : ∀ idl i t t', s idl = none → Near idl t t' → I i t → I i t') (hEr : ∀ idl t t', s idl = none → Near idl t t' → Er t → Er t') (hEx : ∀ idl i t t', s idl = none → Near idl t t' → Ex i t → Ex i t')
    (h0 : I 0 s) (hn : ∀ t, I n t → Qn t) (hr : ∀ t, Er t → Qr t) (hx : ∀ i t, Ex i t → Qx i t)
    (round : ∀ (i : Nat) (t : HS) (idl : Nat) (R0 R1 : HObj) (K : Exit → HS → Prop), i < n → s idl = none → t idl = some R0 → I i t → (∀ t', t' idl = some R1 → I (i + 1) t' → K .normal t') →
      (∀ t', t' idl = some R1 → Er t' → K .ret t') → (∀ j t', t' idl = some R1 → Ex j t' → K (.exit j) t') → IsTok R0 → IsTok R1 → B (fun t' G => t' idl = some R0 ∧ G (t'.set idl R1)) (enc i) t K) :
    HRange P (.func (.func f) caps) n1 env B s Qn Qr Qx := by
  unfold HRange
  simp only
  rw [hite_eq, if_pos hp]
  intro idl r hid hrounds
  have near : ∀ {t t' : HS} {st : Option (Option Code)}, t idl = some (.tok r env st) → (∀ k ob, k ≠ idl → t k = some ob → t' k = some ob) → Near idl t t' := fun h1 h2 => ⟨fun ob ho => by rw [h1] at ho; cases ho; exact True.intro, h2⟩
  have setN : ∀ (t : HS) (o : HObj) k ob, k ≠ idl → t k = some ob → (t.set idl o) k = some ob := fun t o k ob hk h => by simp only [HS.set, if_neg hk]; exact h
  have delN : ∀ (t : HS) k ob, k ≠ idl → t k = some ob → (t.del idl) k = some ob := fun t k ob hk h => by simp only [HS.del, if_neg hk]; exact h
  refine (it idl (fun i t => t idl = some (.tok r env (some none)) ∧ I i t) (fun t => (t idl = some (.tok r env (some (some .ret))) ∧ Er t) ∨ ∃ i, t idl = some (.tok r env (some (some (.exit i)))) ∧ Ex i t) (s.set idl (.tok r env (some none))) ?_ ?_ (fun i t h => hIs i t h.2) ?_ ?_).mono ?_
  · intro k ob hk0
    have hk := hs0 k ob hk0
    exact setN s _ k ob (by rintro rfl; rw [hid] at hk; cases hk) hk
  · rintro i t t' ⟨h1, h2⟩ hle
    exact ⟨hle _ _ h1, hI idl i t t' hid (near h1 fun k ob _ hk => hle k ob hk) h2⟩
  · rintro i t K hi ⟨h1, h2⟩ hT hF
    refine hrounds (enc i) t K h1 (hl i hi) ?_
    refine round i t idl _ _ _ hi hid h1 h2 (fun t' g1 g2 => ⟨g1, ?_⟩) (fun t' g1 g2 => ⟨g1, ?_⟩) (fun j t' g1 g2 => ⟨g1, ?_⟩) True.intro True.intro
    · exact hT _ ⟨by simp [HS.set], hI idl _ _ _ hid (near g1 (setN t' _)) g2⟩
    · exact hF _ (.inl ⟨by simp [HS.set], hEr idl _ _ hid (near g1 (setN t' _)) g2⟩)
    · exact hF _ (.inr ⟨j, by simp [HS.set], hEx idl _ _ _ hid (near g1 (setN t' _)) g2⟩)
  · exact ⟨by simp [HS.set], hI idl 0 s _ hid ⟨fun ob ho => (by rw [hid] at ho; cases ho), setN s _⟩ h0⟩
  · rintro v t (⟨h1, h2⟩ | ⟨h1, h2⟩ | ⟨i, h1, h2⟩)
    · exact .inl ⟨h1, hn _ (hI idl _ _ _ hid (near h1 (delN t)) h2)⟩
    · exact .inr (.inl ⟨h1, hr _ (hEr idl _ _ hid (near h1 (delN t)) h2)⟩)
    · exact .inr (.inr ⟨i, h1, hx _ _ (hEx idl _ _ _ hid (near h1 (delN t)) h2)⟩)
end Go.Proofs.Ytkcgokkgefgcjaa.H
end
section
namespace Go.Proofs.Ytkcgokkgefgcjaa.H
open Go.RowKit Go.MapKept
set_option linter.unusedVariables false
set_option linter.unusedSimpArgs false
theorem put_rows {α : Type} {enc : α → List HV} {sz : Nat} (h : ∀ x, (enc x).length = sz) (v : α) (rest : List HV) : ∀ (l : List α) (i : Nat), i < l.length → putCells (rows enc l ++ rest) (i * sz) (enc v) = rows enc (l.set i v) ++ rest
  | x :: l, 0, _ => by
    simp only [putCells, Nat.zero_mul, List.take_zero, List.nil_append, Nat.zero_add, List.set_cons_zero, rows_cons, h, List.append_assoc]
    rw [List.drop_append, List.drop_of_length_le (by rw [h]; omega), List.nil_append, h, Nat.sub_self, List.drop_zero]
  | x :: l, i + 1, hi => by
    have ih := put_rows h v rest l i (by simpa using hi)
    simp only [putCells, List.set_cons_succ, rows_cons, List.append_assoc] at ih ⊢
    rw [← ih, Nat.add_mul, Nat.one_mul]
    rw [List.take_append, List.take_of_length_le (by rw [h]; omega), h, Nat.add_sub_cancel, List.append_assoc]
    congr 1
    congr 1
    congr 1
    rw [h, List.drop_append, List.drop_of_length_le (by rw [h]; omega), List.nil_append, h]
    congr 1
    omega
theorem idx_view {q off sz n : Nat} {f : Bool} {i : Nat} (k : IntKind) (hi : i < n) : vIdx sz (.view q off sz n f) (.lit (.int k i)) = some (.ptr q (off + i * sz)) := by
  have h1 : (i : Int) < (n : Int) := by omega
  simp [vIdx, h1]
theorem load_rows {α : Type} {enc : α → List HV} {sz : Nat} (h : ∀ x, (enc x).length = sz) (z : α) {s : HS} {q : Nat} {l : List α} {rest : List HV} (hq : s q = some (.cells (rows enc l ++ rest))) {i : Nat} (hi : i < l.length) :
    vLoad s (.ptr q (i * sz)) sz true = some (.agg (enc (l.getD i z))) := by
  have hl : (rows enc l).length = l.length * sz := rows_len h l
  have h2 : i * sz + sz ≤ l.length * sz := by
    have := Nat.mul_le_mul_right sz (show i + 1 ≤ l.length from hi)
    rw [Nat.add_mul, Nat.one_mul] at this
    exact this
  have h3 : ((rows enc l ++ rest).drop (i * sz)).take sz = enc (l.getD i z) := by
    rw [List.drop_append_of_le_length (by omega), List.take_append_of_le_length (by simp; omega)]
    exact rows_idx h z l i hi
  simp only [vLoad, hq, takeCells, if_true, h3]
  rw [if_pos (by rw [List.length_append]; omega)]
theorem load_rows1 {α : Type} {enc : α → List HV} {sz : Nat} (h : ∀ x, (enc x).length = sz) (z : α) {s : HS} {q : Nat} {l : List α} {rest : List HV} (hq : s q = some (.cells (rows enc l ++ rest))) {i j n : Nat} (hi : i < l.length) (hj : j < sz) :
    vLoad s (.ptr q (i * sz + j)) n false = (enc (l.getD i z))[j]? := by
  have h3 := rows_idx h z l i hi
  have hl : (rows enc l).length = l.length * sz := rows_len h l
  have h2 : i * sz + sz ≤ l.length * sz := by
    have := Nat.mul_le_mul_right sz (show i + 1 ≤ l.length from hi)
    rw [Nat.add_mul, Nat.one_mul] at this
    exact this
  simp only [vLoad, hq, takeCells, Bool.false_eq_true, if_false]
  rw [← h3, List.getElem?_take, if_pos hj, List.getElem?_drop, List.getElem?_append_left (by omega)]
theorem load_cell {t : HS} {q : Nat} {cs : List HV} (off n : Nat) (h : t q = some (.cells cs)) : vLoad t (.ptr q off) n false = cs[off]? := by simp [vLoad, takeCells, h]
theorem load_all {t : HS} {q n : Nat} {cs : List HV} (hn : cs.length = n) (h : t q = some (.cells cs)) : vLoad t (.ptr q 0) n true = some (.agg cs) := by
  subst hn
  simp [vLoad, takeCells, h]
/-- A value is put into a box of its size. -/
theorem store_all {s : HS} {q n : Nat} {cs vs : List HV} {K : HS → Prop} (hq : s q = some (.cells cs)) (hc : cs.length = n) (hv : vs.length = n) (ho : ∀ x ∈ vs, hone x = true) (h : K (s.set q (.cells vs))) : hStore s (.ptr q 0) (.agg vs) n K := by
  unfold hStore
  simp only [hcells, hq]
  refine ⟨hv, by omega, ho, ?_⟩
  have e : putCells cs 0 vs = vs := by
    unfold putCells
    rw [List.take_zero, List.nil_append, List.drop_of_length_le (by omega), List.append_nil]
  rw [e]
  exact h
/-- A new box that a value is put into. -/
theorem new_store {s : HS} {n : Nat} {zs vs : List HV} {K : HV → HS → Prop} (hz : zs.length = n) (hv : vs.length = n) (ho : ∀ x ∈ vs, hone x = true) (h : ∀ q, s q = none → K (.ptr q 0) (s.set q (.cells vs))) :
    hNew s (.cells zs) (fun id => .ptr id 0) (fun x t => hStore t x (.agg vs) n (fun t' => K x t')) := by
  intro q hq
  refine store_all (s := s.set q (.cells zs)) (by simp [HS.set]) hz hv ho ?_
  have : (s.set q (.cells zs)).set q (.cells vs) = s.set q (.cells vs) := by funext k; simp only [HS.set]; split <;> rfl
  rw [this]
  exact h q hq
/-- An element is put into a row. -/
theorem store_rows {α : Type} {enc : α → List HV} {sz : Nat} (h : ∀ x, (enc x).length = sz) {s : HS} {q : Nat} {l : List α} {rest : List HV} (hq : s q = some (.cells (rows enc l ++ rest))) {i : Nat} (hi : i < l.length) (v : α)
    (ho : ∀ x ∈ enc v, hone x = true) {K : HS → Prop} (hK : K (s.set q (.cells (rows enc (l.set i v) ++ rest)))) : hStore s (.ptr q (i * sz)) (.agg (enc v)) sz K := by
  have hl : (rows enc l).length = l.length * sz := rows_len h l
  have h2 : i * sz + sz ≤ l.length * sz := by
    have := Nat.mul_le_mul_right sz (show i + 1 ≤ l.length from hi)
    rw [Nat.add_mul, Nat.one_mul] at this
    exact this
  unfold hStore
  simp only [hcells, hq]
  refine ⟨h v, by rw [List.length_append]; omega, ho, ?_⟩
  rw [put_rows h v rest l i hi]
  exact hK
end Go.Proofs.Ytkcgokkgefgcjaa.H
end
section
namespace Go.Proofs.Ytkcgokkgefgcjaa.H
open Go.RowKit Go.MapKept
set_option linter.unusedVariables false
set_option linter.unusedSimpArgs false
variable {P : Program}
def idxI {α : Type} (p : α → Bool) (l : List α) : Int := match l.findIdx? p with | some i => (i : Int) | none => -1
theorem idxI_at {α : Type} {p : α → Bool} {l : List α} {i : Nat} (hi : i < l.length) (h : ∀ x ∈ l.take i, p x = false) (hp : p l[i] = true) : idxI p l = (i : Int) := by
  have : l.findIdx? p = some i := by
    rw [List.findIdx?_eq_some_iff_getElem]
    refine ⟨hi, hp, fun j hj => ?_⟩
    have := h l[j] (List.mem_take_iff_getElem.2 ⟨j, by omega, rfl⟩)
    simp [this]
  simp [idxI, this]
theorem idxI_none {α : Type} {p : α → Bool} {l : List α} (h : ∀ x ∈ l, p x = false) : idxI p l = -1 := by
  have : l.findIdx? p = none := List.findIdx?_eq_none_iff.2 h
  simp [idxI, this]
theorem idxI_cases {α : Type} (p : α → Bool) (l : List α) : (idxI p l = -1 ∧ ∀ x ∈ l, p x = false) ∨ ∃ i, ∃ hi : i < l.length, idxI p l = (i : Int) ∧ p l[i] = true ∧ ∀ x ∈ l.take i, p x = false := by
  cases h : l.findIdx? p with
  | none => exact .inl ⟨by simp [idxI, h], List.findIdx?_eq_none_iff.1 h⟩
  | some i =>
    rw [List.findIdx?_eq_some_iff_getElem] at h
    obtain ⟨hi, hp, hj⟩ := h
    have ht : ∀ x ∈ l.take i, p x = false := fun x hx => by
      obtain ⟨j, hj1, rfl⟩ := List.mem_take_iff_getElem.1 hx
      have := hj j (by omega)
      simpa using this
    exact .inr ⟨i, hi, idxI_at hi ht hp, hp, ht⟩
theorem wrap_add1 {i : Nat} (h : i < 9223372036854775807) : IntKind.i64.wrap ((i : Int) + 1) = ((i + 1 : Nat) : Int) := by rw [w64 (by omega) (by omega)]; omega
theorem getD_get {α : Type} (z : α) (l : List α) {i : Nat} (h : i < l.length) : l.getD i z = l[i] := by simp [List.getD, h]
/-- slices.IndexFunc: the row lies in memory. -/
theorem idxFunc_gen {e sz : Nat} {α : Type} {enc : α → List HV} (h : ∀ x, (enc x).length = sz) (z : α) (p : α → Bool) {a1 : HV} {q : Nat} {l : List α} {rest : List HV} {f : Bool} {s : HS} {Q : HV → HS → Prop}
    (hq : s q = some (.cells (rows enc l ++ rest))) (hl : l.length < 9223372036854775807)
    (hp : ∀ x ∈ l, ∀ K : HV → HS → Prop, K (.lit (.bool (p x))) s → hcall P a1 [.agg (enc x)] s K) (hQ : Q (.lit (.int .i64 (idxI p l))) s) :
    bindO (vLenT (some (.slice e)) s (.view q 0 sz l.length f)) fun x1 => HLoop (fun y3 s4 K2 => bindO (vBin .lss (y3.headD .junk) x1) fun x5 => hcond x5 (bindO (vIdx sz (.view q 0 sz l.length f) (y3.headD .junk)) fun x6 => bindO (vLoad s4 x6 sz true) fun x7 => hcall P a1 [x7] s4 (fun r8 s9 => hcond r8 (Q (y3.headD .junk) s9) (bindO (vBin .add (y3.headD .junk) (.lit (.int .i64 1))) fun x10 => K2 [x10] s9))) (Q (.lit (.int .i64 (-1))) s4)) [(.lit (.int .i64 0))] s := by
  simp only [vLenT, vLen, bindO]
  refine HLoop.ghost (σ := Nat) (fun i => [.lit (.int .i64 (i : Int))]) (fun i t => i ≤ l.length ∧ t = s ∧ ∀ x ∈ l.take i, p x = false) (fun i => l.length - i) 0 rfl ⟨Nat.zero_le _, rfl, by simp⟩ ?_
  rintro i t K ⟨hi, rfl, ht⟩ hK
  simp only [List.headD_cons, vBin, if_true, hcond]
  by_cases hlt : i < l.length
  · have hlt' : (i : Int) < (l.length : Int) := by omega
    have hg := getD_get z l hlt
    simp only [hlt', decide_true, idx_view _ hlt, Nat.zero_add, load_rows h z hq hlt, hg]
    refine hp _ (List.getElem_mem hlt) _ ?_
    cases hpx : p l[i] with
    | true =>
      have := idxI_at hlt ht hpx
      rw [this] at hQ
      exact hQ
    | false =>
      simp only [wrap_add1 (show i < 9223372036854775807 by omega)]
      refine hK (i + 1) _ _ rfl ⟨hlt, rfl, fun x hx => ?_⟩ (by omega)
      rw [take_succ' z l hlt, hg, List.mem_append, List.mem_singleton] at hx
      rcases hx with hx | rfl
      · exact ht x hx
      · exact hpx
  · have hlt' : ¬ (i : Int) < (l.length : Int) := by omega
    rw [List.take_of_length_le (by omega)] at ht
    rw [idxI_none ht] at hQ
    simp only [hlt', decide_false]
    exact hQ
theorem idxFunc_nil {e sz : Nat} {a1 : HV} {s : HS} {Q : HV → HS → Prop} (hQ : Q (.lit (.int .i64 (-1))) s) :
    bindO (vLenT (some (.slice e)) s nilV) fun x1 => HLoop (fun y3 s4 K2 => bindO (vBin .lss (y3.headD .junk) x1) fun x5 => hcond x5 (bindO (vIdx sz nilV (y3.headD .junk)) fun x6 => bindO (vLoad s4 x6 sz true) fun x7 => hcall P a1 [x7] s4 (fun r8 s9 => hcond r8 (Q (y3.headD .junk) s9) (bindO (vBin .add (y3.headD .junk) (.lit (.int .i64 1))) fun x10 => K2 [x10] s9))) (Q (.lit (.int .i64 (-1))) s4)) [(.lit (.int .i64 0))] s := by
  simp only [vLenT, vLen, bindO]
  refine HLoop.ghost (σ := Nat) (fun i => [.lit (.int .i64 (i : Int))]) (fun i t => t = s ∧ i = 0) (fun i => 0) 0 rfl ⟨rfl, rfl⟩ ?_
  rintro i t K ⟨rfl, rfl⟩ hK
  exact hQ
end Go.Proofs.Ytkcgokkgefgcjaa.H
end
section
namespace Go.Proofs.Ytkcgokkgefgcjaa.H
open Go.RowKit Go.MapKept
set_option linter.unusedVariables false
set_option linter.unusedSimpArgs false
variable {P : Program}
/-- A row that grows and shrinks: behind it there may be cells. -/
def AccX (b t : HS) (sz : Nat) (A : HV) (n : Nat) (cs : List HV) : Prop :=
  (A = nilV ∧ cs = [] ∧ n = 0) ∨ ∃ q f rest k, b q = none ∧ A = .view q 0 sz n f ∧ t q = some (.cells (cs ++ rest)) ∧ cs.length = n * sz ∧ rest.length = k * sz
theorem Acc.toX {b t : HS} {sz : Nat} {A : HV} {n : Nat} {cs : List HV} (h : Acc b t sz A n cs) : AccX b t sz A n cs := by
  rcases h with h | ⟨q, f, h1, h2, h3, h4, h5⟩
  · exact .inl h
  · exact .inr ⟨q, f, [], 0, h1, h2, by rw [List.append_nil]; exact h3, h4, by simp⟩
theorem AccX.one {b t : HS} {sz : Nat} {A : HV} {n : Nat} {cs : List HV} (h : AccX b t sz A n cs) : hone A = true := by
  rcases h with ⟨rfl, -⟩ | ⟨q, f, r, k, -, rfl, -⟩ <;> rfl
theorem AccX.hc {b t : HS} {sz : Nat} {A : HV} {n : Nat} {cs : List HV} (h : AccX b t sz A n cs) : hcells A = some [A] := by
  rcases h with ⟨rfl, -⟩ | ⟨q, f, r, k, -, rfl, -⟩ <;> rfl
theorem AccX.len {b t : HS} {sz : Nat} {A : HV} {n : Nat} {cs : List HV} (h : AccX b t sz A n cs) (e : Nat) (s : HS) : vLenT (some (.slice e)) s A = some (.lit (.int .i64 n)) := by
  rcases h with ⟨rfl, -, rfl⟩ | ⟨q, f, r, k, -, rfl, -⟩ <;> rfl
theorem AccX.free {b t : HS} {sz : Nat} {A : HV} {n : Nat} {cs : List HV} (h : AccX b t sz A n cs) {q : Nat} (hq : accId A = some q) : b q = none ∧ ∃ rest, t q = some (.cells (cs ++ rest)) := by
  rcases h with ⟨rfl, -⟩ | ⟨q', f, r, k, h1, rfl, h2, -⟩
  · cases hq
  · cases hq; exact ⟨h1, r, h2⟩
theorem AccX.keep {b t t' : HS} {sz : Nat} {A : HV} {n : Nat} {cs : List HV} (h : AccX b t sz A n cs) (hk : ∀ q ob, accId A = some q → t q = some ob → t' q = some ob) : AccX b t' sz A n cs := by
  rcases h with h | ⟨q, f, r, k, h1, rfl, h2, h3⟩
  · exact .inl h
  · exact .inr ⟨q, f, r, k, h1, rfl, hk q _ rfl h2, h3⟩
theorem AccX.le {b t t' : HS} {sz : Nat} {A : HV} {n : Nat} {cs : List HV} (h : AccX b t sz A n cs) (hle : HS.le t t') : AccX b t' sz A n cs := h.keep fun q ob _ hq => hle _ _ hq
theorem AccX.new {b t : HS} {sz : Nat} {A : HV} {n : Nat} {cs : List HV} (h : AccX b t sz A n cs) {X : Nat} (o : HObj) (hX : t X = none) : AccX b (t.set X o) sz A n cs :=
  h.keep fun q ob _ hq => by rw [set_ne _ _ (ne_new hq hX)]; exact hq
theorem AccX.put {b t : HS} {sz : Nat} {A : HV} {n : Nat} {cs : List HV} (h : AccX b t sz A n cs) {X : Nat} (o : HObj) (hX : accId A ≠ some X) : AccX b (t.set X o) sz A n cs :=
  h.keep fun q ob hq hq2 => by rw [set_ne _ _ (by rintro rfl; exact hX hq)]; exact hq2
theorem AccX.base {b b' t : HS} {sz : Nat} {A : HV} {n : Nat} {cs : List HV} (h : AccX b t sz A n cs) (hle : HS.le b' b) : AccX b' t sz A n cs := by
  rcases h with h | ⟨q, f, r, k, h1, h2⟩
  · exact .inl h
  · exact .inr ⟨q, f, r, k, none_of_le hle h1, h2⟩
theorem AccX.cells {b t : HS} {sz : Nat} {A : HV} {n : Nat} {cs : List HV} (h : AccX b t sz A n cs) : lcells t sz A = some cs := by
  rcases h with ⟨rfl, rfl, rfl⟩ | ⟨q, f, r, k, h1, rfl, h3, h4, h5⟩
  · rfl
  · have e : (cs ++ r).take (n * sz) = cs := by rw [← h4]; exact List.take_left
    simp [lcells, h3, h4, e]
theorem AccX.llen {b t : HS} {sz : Nat} {A : HV} {n : Nat} {cs : List HV} (h : AccX b t sz A n cs) : llen A = n := by
  rcases h with ⟨rfl, rfl, rfl⟩ | ⟨q, f, r, k, h1, rfl, h3, h4, h5⟩ <;> rfl
/-- One more behind it. -/
theorem AccX.app1W {b t : HS} {sz by_ : Nat} {A : HV} {n : Nat} {cs zs : List HV} {W : HS → Prop} {K : HV → HS → Prop} (h : AccX b t sz A n cs) (hb : HS.le b t) (hsz : 0 < sz) {x : HV} {vs : List HV} (hx : hcells x = some vs) (hv : vs.length = sz) (hz : zs.length = sz)
    (hroom : room (n + 1) by_) (hW : ∀ id, t id = none → W (t.set id (.cells vs)))
    (hK : ∀ A' t', AccX b t' sz A' (n + 1) (cs ++ vs) → HS.le b t' → (∀ q ob, accId A ≠ some q → t q = some ob → t' q = some ob ∧ accId A' ≠ some q) → K A' t') : hBS t sz 1 zs [(0, x)] (fun v s => W s ∧ hAppend s sz by_ A v K) := by
  have hf : hfill (fun i => some (i * sz, sz)) zs [(0, x)] = some vs := by
    simp only [hfill, hx, Nat.zero_mul, Nat.zero_add, hv, hz, Nat.le_refl, and_self, if_true, List.take_zero, List.nil_append]
    rw [List.drop_of_length_le (by omega), List.append_nil]
  unfold hBS
  rw [hf]
  intro X hX
  refine ⟨hW X hX, ?_⟩
  have hlx : lcells (t.set X (.cells vs)) sz (.view X 0 sz 1 true) = some vs := by simp [lcells, set_at, hv, List.take_of_length_le]
  rcases h with ⟨rfl, rfl, rfl⟩ | ⟨q, f, r, k, h1, rfl, h3, h4, h5⟩
  · refine (Acc.nil b (t.set X (.cells vs)) sz).app (le_set_new _ hb hX) (xs := vs) (k := 1) hlx rfl (by omega) hroom ?_
    intro A' t' g1 g2 g3
    exact hK A' t' g1.toX g2 fun p ob hp hp2 => g3 p ob hp (by rw [set_ne _ _ (ne_new hp2 hX)]; exact hp2)
  · have nX : q ≠ X := ne_new h3 hX
    have h3' : (t.set X (.cells vs)) q = some (.cells (cs ++ r)) := by rw [set_ne _ _ nX]; exact h3
    have hle := le_set_new (.cells vs) hb hX
    have hfree : ∀ p ob, t p = some ob → (t.set X (.cells vs)) p = some ob := fun p ob hp => by rw [set_ne _ _ (ne_new hp hX)]; exact hp
    generalize t.set X (.cells vs) = u at *
    have hcut : ((cs ++ r).drop 0).take (n * sz) = cs := by rw [List.drop_zero, ← h4]; exact List.take_left
    unfold hAppend
    rw [hlx]
    have hll : Go.Proofs.Ytkcgokkgefgcjaa.H.llen (.view X 0 sz 1 true) = 1 := rfl
    simp only [h3', hll]
    refine ⟨trivial, by rw [List.length_append]; omega, ?_⟩
    cases f with
    | true =>
      simp only [if_true]
      rw [if_neg (show ¬ (1 = 0) by omega)]
      refine ⟨hroom, fun id hid => ?_⟩
      rw [hcut]
      refine hK _ _ (.inr ⟨id, _, [], 0, none_of_le hle hid, rfl, by rw [set_at, List.append_nil], by rw [List.length_append, h4, hv, Nat.add_mul, Nat.one_mul], by simp⟩) (le_set_new _ hle hid) fun p ob hp hp2 => ?_
      have hp3 := hfree p ob hp2
      have := ne_new hp3 hid
      exact ⟨by rw [set_ne _ _ this]; exact hp3, by rintro ⟨⟩; exact this rfl⟩
    | false =>
      simp only [Bool.false_eq_true, if_false]
      split
      · rename_i htip
        have hr0 : r = [] := List.eq_nil_of_length_eq_zero (by rw [List.length_append] at htip; omega)
        subst hr0
        refine ⟨hroom, fun id hid => ?_⟩
        rw [List.append_nil, List.drop_zero]
        refine hK _ _ (.inr ⟨id, _, [], 0, none_of_le hle hid, rfl, by rw [set_at, List.append_nil], by rw [List.length_append, h4, hv, Nat.add_mul, Nat.one_mul], by simp⟩) ?_ ?_
        · intro p ob hp
          have hpq : p ≠ q := by rintro rfl; rw [h1] at hp; cases hp
          have hp1 := hle p ob hp
          rw [set_ne _ _ (ne_new hp1 hid), del_ne _ hpq]
          exact hp1
        · intro p ob hp hp2
          have hpq : p ≠ q := by rintro rfl; exact hp rfl
          have hp3 := hfree p ob hp2
          have := ne_new hp3 hid
          exact ⟨by rw [set_ne _ _ this, del_ne _ hpq]; exact hp3, by rintro ⟨⟩; exact this rfl⟩
      · rename_i htip
        have hk0 : k ≠ 0 := by
          rintro rfl
          rw [List.length_append] at htip
          simp at h5
          rw [h5] at htip
          simp at htip
          omega
        obtain ⟨k', rfl⟩ : ∃ k', k = k' + 1 := ⟨k - 1, by omega⟩
        rw [Nat.add_mul, Nat.one_mul] at h5
        have hn1 : (n + 1) * sz = n * sz + sz := by rw [Nat.add_mul, Nat.one_mul]
        refine ⟨hsz, by rw [List.length_append, hn1]; omega, ?_⟩
        have e : putCells (cs ++ r) (0 + n * sz) vs = (cs ++ vs) ++ r.drop sz := by
          unfold putCells
          rw [Nat.zero_add, ← h4, List.take_left, hv]
          congr 1
          rw [List.drop_append, List.drop_of_length_le (by omega), List.nil_append]
          congr 1
          omega
        rw [e]
        refine hK _ _ (.inr ⟨q, false, r.drop sz, k', h1, rfl, set_at _ _ _, by rw [List.length_append, h4, hv, Nat.add_mul, Nat.one_mul], by rw [List.length_drop]; omega⟩) (le_set_free _ hle h1) fun p ob hp hp2 => ?_
        have hpq : p ≠ q := by rintro rfl; exact hp rfl
        exact ⟨by rw [set_ne _ _ hpq]; exact hfree p ob hp2, hp⟩
theorem AccX.app1 {b t : HS} {sz by_ : Nat} {A : HV} {n : Nat} {cs zs : List HV} {K : HV → HS → Prop} (h : AccX b t sz A n cs) (hb : HS.le b t) (hsz : 0 < sz) {x : HV} {vs : List HV} (hx : hcells x = some vs) (hv : vs.length = sz) (hz : zs.length = sz)
    (hroom : room (n + 1) by_) (hK : ∀ A' t', AccX b t' sz A' (n + 1) (cs ++ vs) → HS.le b t' → (∀ q ob, accId A ≠ some q → t q = some ob → t' q = some ob ∧ accId A' ≠ some q) → K A' t') : hBS t sz 1 zs [(0, x)] (fun v s => hAppend s sz by_ A v K) := by
  have := h.app1W (W := fun _ => True) (K := K) (zs := zs) hb hsz hx hv hz hroom (fun _ _ => trivial) hK
  unfold hBS at this ⊢
  split
  · rename_i cs' h'
    rw [h'] at this
    exact fun id hid => (this id hid).2
  · rename_i h'
    rw [h'] at this
    exact this
/-- What lies still, and what may be written, is a list from here on. -/
theorem AccX.up {b t : HS} {sz : Nat} {A : HV} {n : Nat} {cs : List HV} (h : AccX b t sz A n cs) (hb : HS.le b t) : UpL [A] t [.list sz n cs false] b := by
  rcases h with ⟨rfl, rfl, rfl⟩ | ⟨q, f, r, k, h1, rfl, h3, h4, h5⟩
  · exact (UpL.nilAt (ys := []) (zs := []) sz).trans (UpL.le _ hb)
  · have hu := UpL.frzD (xs := [.view q 0 sz n f]) h3 hb h1
    have e : (cs ++ r).take (n * sz) = cs := by rw [← h4]; exact List.take_left
    have e2 : 0 + n * sz ≤ (cs ++ r).length := by rw [List.length_append]; omega
    simp only [List.map_cons, List.map_nil, frz2, frz1, frz0, phi, true_and, e2, if_true, Option.getD_some, List.drop_zero, e] at hu
    exact hu
/-- An element of it. -/
theorem AccX.at_ {α : Type} {enc : α → List HV} {sz : Nat} (he : ∀ x, (enc x).length = sz) (z : α) {b t : HS} {A : HV} {l : List α} (h : AccX b t sz A l.length (rows enc l)) {i : Nat} (k : IntKind) (hi : i < l.length) :
    ∃ q, accId A = some q ∧ vIdx sz A (.lit (.int k i)) = some (.ptr q (i * sz)) ∧ vLoad t (.ptr q (i * sz)) sz true = some (.agg (enc (l.getD i z))) ∧ ∀ j, j < sz → ∀ m, vLoad t (.ptr q (i * sz + j)) m false = (enc (l.getD i z))[j]? := by
  rcases h with ⟨rfl, h0, h1⟩ | ⟨q, f, r, k', h1, rfl, h3, h4, h5⟩
  · omega
  · exact ⟨q, rfl, by rw [idx_view _ hi, Nat.zero_add], load_rows he z h3 hi, fun j hj m => load_rows1 he z h3 hi hj⟩
/-- A literal of none, that grows. -/
def Acc0 (b t : HS) (sz : Nat) (A : HV) (n : Nat) (cs : List HV) : Prop := Acc b t sz A n cs ∨ (n = 0 ∧ cs = [] ∧ ∃ q, b q = none ∧ A = .view q 0 sz 0 true ∧ t q = some (.cells []))
theorem hBS0 {t : HS} {sz : Nat} {K : HV → HS → Prop} (h : ∀ id, t id = none → K (.view id 0 sz 0 true) (t.set id (.cells []))) : hBS t sz 0 [] [] K := h
theorem app_empty {b t : HS} {sz by_ q : Nat} {K : HV → HS → Prop} (hb : HS.le b t) (hq : b q = none) (ht : t q = some (.cells [])) {x : HV} {xs : List HV} {k : Nat} (hx : lcells t sz x = some xs) (hk : llen x = k) (hl : xs.length = k * sz)
    (hroom : room k by_) (hK : ∀ A' t', Acc0 b t' sz A' k xs → HS.le b t' → K A' t') : hAppend t sz by_ (.view q 0 sz 0 true) x K := by
  unfold hAppend
  rw [hx]
  simp only [hk, ht]
  refine ⟨by trivial, by simp, ?_⟩
  simp only [if_true]
  split
  · rename_i h0
    subst h0
    have : xs = [] := List.eq_nil_of_length_eq_zero (by rw [hl]; omega)
    subst this
    exact hK _ _ (.inr ⟨rfl, rfl, q, hq, rfl, ht⟩) hb
  · refine ⟨by rw [Nat.zero_add]; exact hroom, fun id hid => ?_⟩
    have e : (([] : List HV).drop 0).take (0 * sz) ++ xs = xs := by simp
    rw [e]
    exact hK _ _ (.inl (.inr ⟨id, _, none_of_le hb hid, by rw [Nat.zero_add], set_at _ _ _, hl, by omega⟩)) (le_set_new _ hb hid)
theorem acc0_upL {b t : HS} {sz : Nat} {A : HV} {n : Nat} {cs : List HV} (h : Acc0 b t sz A n cs) (hb : HS.le b t) : UpL [A] t [.list sz n cs false] b := by
  rcases h with h | ⟨rfl, rfl, q, h3, rfl, h4⟩
  · exact h.upAtL hb [] [] (fun _ _ => rfl) (fun _ _ => rfl)
  · have := UpL.freeze (ys := []) (zs := []) (id := q) (off := 0) (sz := sz) (n := 0) (full := true) (full' := false) (fun h => by cases h) h4 (by simp)
    simp only [Nat.zero_mul, List.take_zero, List.nil_append] at this
    exact this.trans (UpL.le _ (le_del_free hb h3))
end Go.Proofs.Ytkcgokkgefgcjaa.H
end
section
namespace Go.Proofs.Ytkcgokkgefgcjaa.H
set_option linter.unusedVariables false
set_option linter.unusedSimpArgs false
section
variable {α : Type} {z : α} {lt : α → α → Bool}
/-- A total order, but for equals. -/
structure Ordr (lt : α → α → Bool) : Prop where
  asymm : ∀ x y, lt x y = true → lt y x = false
  trans : ∀ x y w, lt y x = false → lt w y = false → lt w x = false
theorem Ordr.irrefl (h : Ordr lt) (x : α) : lt x x = false := by
  cases e : lt x x with
  | false => rfl
  | true => have := h.asymm x x e; rw [e] at this; cases this
def SO (z : α) (lt : α → α → Bool) (M : List α) (a b : Nat) : Prop := ∀ i j, a ≤ i → i < j → j < b → lt (M.getD j z) (M.getD i z) = false
def swap (z : α) (M : List α) (i j : Nat) : List α := (M.set i (M.getD j z)).set j (M.getD i z)
theorem swap_perm {M : List α} {i j : Nat} (hi : i < M.length) (hj : j < M.length) : (swap z M i j).Perm M := by
  unfold swap
  rw [getD_get z M hi, getD_get z M hj]
  exact List.set_set_perm hi hj
theorem swap_get {M : List α} {i j : Nat} (hi : i < M.length) (hj : j < M.length) (k : Nat) : (swap z M i j).getD k z = if k = j then M.getD i z else if k = i then M.getD j z else M.getD k z := by
  unfold swap
  simp only [List.getD, List.getElem?_set]
  by_cases h1 : k = j
  · subst h1
    simp [hj]
  · by_cases h2 : k = i
    · subst h2
      have : ¬ j = k := fun e => h1 e.symm
      simp [this, hi, h1]
    · have e1 : ¬ j = k := fun e => h1 e.symm
      have e2 : ¬ i = k := fun e => h2 e.symm
      simp [e1, e2, h1, h2]
/-- What one element is put into, from the right. -/
def Ins (z : α) (lt : α → α → Bool) (M : List α) (a i j : Nat) : Prop :=
  (∀ p q, a ≤ p → p < q → q ≤ i → p ≠ j → q ≠ j → lt (M.getD q z) (M.getD p z) = false) ∧ ∀ q, j < q → q ≤ i → lt (M.getD q z) (M.getD j z) = false
theorem Ins.start {M : List α} {a i : Nat} (h : SO z lt M a i) : Ins z lt M a i i :=
  ⟨fun p q h1 h2 h3 h4 h5 => h p q h1 h2 (by omega), fun q h1 h2 => by omega⟩
theorem Ins.step (ho : Ordr lt) {M : List α} {a i j : Nat} (h : Ins z lt M a i j) (hi : i < M.length) (hj : j ≤ i) (ha : a < j) (hl : lt (M.getD j z) (M.getD (j - 1) z) = true) : Ins z lt (swap z M j (j - 1)) a i (j - 1) := by
  obtain ⟨h1, h2⟩ := h
  have hg := swap_get (z := z) (M := M) (i := j) (j := j - 1) (by omega) (by omega)
  constructor
  · intro p q g1 g2 g3 g4 g5
    rw [hg, hg, if_neg g5, if_neg g4]
    by_cases hp : p = j
    · subst hp
      rw [if_pos rfl, if_neg (by omega)]
      exact h1 (p - 1) q (by omega) (by omega) g3 (by omega) (by omega)
    · rw [if_neg hp]
      by_cases hq : q = j
      · subst hq
        rw [if_pos rfl]
        exact h1 p (q - 1) g1 (by omega) (by omega) hp (by omega)
      · rw [if_neg hq]
        exact h1 p q g1 g2 g3 hp hq
  · intro q g1 g2
    rw [hg, hg, if_neg (by omega), if_pos rfl]
    by_cases hq : q = j
    · subst hq
      rw [if_pos rfl]
      exact ho.asymm _ _ hl
    · rw [if_neg hq]
      exact h2 q (by omega) g2
theorem Ins.stop (ho : Ordr lt) {M : List α} {a i j : Nat} (h : Ins z lt M a i j) (ha : a ≤ j) (hj : j ≤ i) (hs : j = a ∨ lt (M.getD j z) (M.getD (j - 1) z) = false) : SO z lt M a (i + 1) := by
  obtain ⟨h1, h2⟩ := h
  intro p q g1 g2 g3
  by_cases hp : p = j
  · subst hp; exact h2 q g2 (by omega)
  · by_cases hq : q = j
    · subst hq
      have hs : lt (M.getD q z) (M.getD (q - 1) z) = false := hs.resolve_left (by omega)
      by_cases hpp : p = q - 1
      · subst hpp; exact hs
      · exact ho.trans _ _ _ (h1 p (q - 1) g1 (by omega) (by omega) hp (by omega)) hs
    · exact h1 p q g1 g2 (by omega) hp hq
/-- Changed within two bounds alone, and nothing lost. -/
structure Kept (z : α) (M M' : List α) (a b : Nat) : Prop where
  perm : M'.Perm M
  out : ∀ k, k < a ∨ b ≤ k → M'.getD k z = M.getD k z
  inn : ∀ k, a ≤ k → k < b → ∃ q, a ≤ q ∧ q < b ∧ M'.getD k z = M.getD q z
theorem Kept.refl (M : List α) (a b : Nat) : Kept z M M a b := ⟨List.Perm.refl _, fun _ _ => rfl, fun k h1 h2 => ⟨k, h1, h2, rfl⟩⟩
theorem Kept.trans {M M' M'' : List α} {a b : Nat} (h : Kept z M M' a b) (k : Kept z M' M'' a b) : Kept z M M'' a b :=
  ⟨k.perm.trans h.perm, fun i hi => (k.out i hi).trans (h.out i hi), fun i h1 h2 => by
    obtain ⟨q, q1, q2, e1⟩ := k.inn i h1 h2
    obtain ⟨r, r1, r2, e2⟩ := h.inn q q1 q2
    exact ⟨r, r1, r2, e1.trans e2⟩⟩
theorem Kept.wide {M M' : List α} {a b c d : Nat} (h : Kept z M M' a b) (h1 : c ≤ a) (h2 : b ≤ d) : Kept z M M' c d :=
  ⟨h.perm, fun i hi => h.out i (by omega), fun i h3 h4 => by
    by_cases hi : a ≤ i ∧ i < b
    · obtain ⟨q, q1, q2, e⟩ := h.inn i hi.1 hi.2
      exact ⟨q, by omega, by omega, e⟩
    · exact ⟨i, h3, h4, h.out i (by omega)⟩⟩
theorem Kept.len {M M' : List α} {a b : Nat} (h : Kept z M M' a b) : M'.length = M.length := h.perm.length_eq
theorem Kept.swap {M : List α} {a b i j : Nat} (hi : i < M.length) (hj : j < M.length) (h1 : a ≤ i) (h2 : i < b) (h3 : a ≤ j) (h4 : j < b) : Kept z M (swap z M i j) a b :=
  ⟨swap_perm hi hj, fun k hk => by rw [swap_get hi hj, if_neg (by omega), if_neg (by omega)], fun k h5 h6 => by
    rw [swap_get hi hj]
    split
    · exact ⟨i, h1, h2, rfl⟩
    · split
      · exact ⟨j, h3, h4, rfl⟩
      · exact ⟨k, h5, h6, rfl⟩⟩
theorem SO.nil (M : List α) (a : Nat) : SO z lt M a a := fun i j h1 h2 h3 => by omega
theorem SO.one (M : List α) (a : Nat) : SO z lt M a (a + 1) := fun i j h1 h2 h3 => by omega
theorem SO.of_out {M M' : List α} {a b c d : Nat} (h : SO z lt M a b) (k : Kept z M M' c d) (hd : b ≤ c ∨ d ≤ a) : SO z lt M' a b := fun i j h1 h2 h3 => by
  rw [k.out i (by omega), k.out j (by omega)]
  exact h i j h1 h2 h3
theorem SO.pairwise {M : List α} (h : SO z lt M 0 M.length) : M.Pairwise fun x y => lt y x = false := by
  rw [List.pairwise_iff_getElem]
  intro i j hi hj hij
  have := h i j (Nat.zero_le _) hij hj
  rwa [getD_get z M hi, getD_get z M hj] at this
end
end Go.Proofs.Ytkcgokkgefgcjaa.H
end
section
namespace Go.Proofs.Ytkcgokkgefgcjaa.H
set_option linter.unusedVariables false
set_option linter.unusedSimpArgs false
section
variable {α : Type} {z : α} {lt : α → α → Bool}
def SOf (lt : α → α → Bool) (f : Nat → α) (a b : Nat) : Prop := ∀ i j, a ≤ i → i < j → j < b → lt (f j) (f i) = false
theorem so_iff {M : List α} {a b : Nat} : SO z lt M a b ↔ SOf lt (fun k => M.getD k z) a b := Iff.rfl
/-- Two blocks changed places. -/
def swF (f : Nat → α) (p q n x : Nat) : α := if p ≤ x ∧ x < p + n then f (x - p + q) else if q ≤ x ∧ x < q + n then f (x - q + p) else f x
/-- What stands before and behind m changed places. -/
def rotF (f : Nat → α) (a m b x : Nat) : α := if a ≤ x ∧ x < a + (b - m) then f (x + (m - a)) else if a + (b - m) ≤ x ∧ x < b then f (x - (b - m)) else f x
def shR (f : Nat → α) (a k x : Nat) : α := if a ≤ x ∧ x < k then f (x + 1) else if x = k then f a else f x
def shL (f : Nat → α) (m k x : Nat) : α := if k < x ∧ x ≤ m then f (x - 1) else if x = k then f m else f x
theorem swF_zero (f : Nat → α) (p q x : Nat) : swF f p q 0 x = f x := by
  unfold swF
  rw [if_neg (by omega), if_neg (by omega)]
theorem swF_step {M' : List α} {f : Nat → α} {p q k : Nat} (h : ∀ x, M'.getD x z = swF f p q k x) (hpq : p + k < q) (hq : q + k < M'.length) (x : Nat) : (swap z M' (p + k) (q + k)).getD x z = swF f p q (k + 1) x := by
  rw [swap_get (by omega) hq, h, h, h]
  unfold swF
  repeat' split
  all_goals first | rfl | (exfalso; omega) | (congr 1; omega)
theorem shR_step {M' : List α} {f : Nat → α} {a k : Nat} (h : ∀ x, M'.getD x z = shR f a k x) (ha : a ≤ k) (hk : k + 1 < M'.length) (x : Nat) : (swap z M' k (k + 1)).getD x z = shR f a (k + 1) x := by
  rw [swap_get (by omega) hk, h, h, h]
  unfold shR
  repeat' split
  all_goals first | rfl | (exfalso; omega) | (congr 1; omega)
theorem shR_zero (f : Nat → α) (a x : Nat) : shR f a a x = f x := by
  unfold shR
  rw [if_neg (by omega)]
  split
  · rename_i e; rw [e]
  · rfl
theorem shL_step {M' : List α} {f : Nat → α} {m k : Nat} (h : ∀ x, M'.getD x z = shL f m k x) (hm : k ≤ m) (h0 : 0 < k) (hk : k < M'.length) (x : Nat) : (swap z M' k (k - 1)).getD x z = shL f m (k - 1) x := by
  rw [swap_get (by omega) (by omega), h, h, h]
  unfold shL
  repeat' split
  all_goals first | rfl | (exfalso; omega) | (congr 1; omega)
theorem shL_zero (f : Nat → α) (m x : Nat) : shL f m m x = f x := by
  unfold shL
  rw [if_neg (by omega)]
  split
  · rename_i e; rw [e]
  · rfl
theorem rot_step1 (f : Nat → α) {m i j : Nat} (hi : i ≤ m) (hj : j < i) (x : Nat) : rotF f (m - i) m (m + j) x = rotF (swF f (m - i) m j) (m - (i - j)) m (m + j) x := by
  unfold rotF swF
  repeat' split
  all_goals first | rfl | (exfalso; omega) | (congr 1; omega)
theorem rot_step2 (f : Nat → α) {m i j : Nat} (hi : i ≤ m) (hj : i < j) (x : Nat) : rotF f (m - i) m (m + j) x = rotF (swF f (m - i) (m + j - i) i) (m - i) m (m + (j - i)) x := by
  unfold rotF swF
  repeat' split
  all_goals first | rfl | (exfalso; omega) | (congr 1; omega)
theorem rot_end (f : Nat → α) {m i : Nat} (hi : i ≤ m) (x : Nat) : rotF f (m - i) m (m + i) x = swF f (m - i) m i x := by
  unfold rotF swF
  repeat' split
  all_goals first | rfl | (exfalso; omega) | (congr 1; omega)
theorem rot_idL (f : Nat → α) (m b x : Nat) : rotF f m m b x = f x := by
  unfold rotF
  repeat' split
  all_goals first | rfl | (exfalso; omega) | (congr 1; omega)
theorem rot_idR (f : Nat → α) (a m x : Nat) : rotF f a m m x = f x := by
  unfold rotF
  repeat' split
  all_goals first | rfl | (exfalso; omega) | (congr 1; omega)
theorem rot_congr {f g : Nat → α} (h : ∀ x, f x = g x) (a m b x : Nat) : rotF f a m b x = rotF g a m b x := by rw [show f = g from funext h]
/-- One element put in from the left. -/
theorem shR_so (ho : Ordr lt) {f : Nat → α} {a b i : Nat} (hs : SOf lt f (a + 1) b) (hi : a + 1 ≤ i) (hi' : i ≤ b) (h1 : ∀ h, a + 1 ≤ h → h < i → lt (f h) (f a) = true) (h2 : ∀ h, i ≤ h → h < b → lt (f h) (f a) = false) : SOf lt (shR f a (i - 1)) a b := by
  intro p q g1 g2 g3
  unfold shR
  by_cases hp : p < i - 1
  · rw [if_pos (⟨g1, hp⟩ : a ≤ p ∧ p < i - 1)]
    by_cases hq : q < i - 1
    · rw [if_pos (⟨by omega, hq⟩ : a ≤ q ∧ q < i - 1)]
      exact hs _ _ (by omega) (by omega) (by omega)
    · rw [if_neg (by omega)]
      by_cases hq2 : q = i - 1
      · rw [if_pos hq2]
        exact ho.asymm _ _ (h1 _ (by omega) (by omega))
      · rw [if_neg hq2]
        exact hs _ _ (by omega) (by omega) g3
  · rw [if_neg (by omega : ¬ (a ≤ p ∧ p < i - 1)), if_neg (by omega : ¬ (a ≤ q ∧ q < i - 1)), if_neg (by omega : ¬ q = i - 1)]
    split
    · exact h2 _ (by omega) g3
    · exact hs _ _ (by omega) g2 g3
theorem shL_so (ho : Ordr lt) {f : Nat → α} {a m i : Nat} (hs : SOf lt f a m) (hi : a ≤ i) (hi' : i ≤ m) (h1 : ∀ h, a ≤ h → h < i → lt (f m) (f h) = false) (h2 : ∀ h, i ≤ h → h < m → lt (f m) (f h) = true) : SOf lt (shL f m i) a (m + 1) := by
  intro p q g1 g2 g3
  unfold shL
  by_cases hp : p < i
  · rw [if_neg (by omega : ¬ (i < p ∧ p ≤ m)), if_neg (by omega : ¬ p = i)]
    by_cases hq : i < q
    · rw [if_pos (by omega : i < q ∧ q ≤ m)]
      exact hs _ _ g1 (by omega) (by omega)
    · rw [if_neg (by omega : ¬ (i < q ∧ q ≤ m))]
      split
      · exact h1 _ g1 hp
      · exact hs _ _ g1 g2 (by omega)
  · rw [if_pos (by omega : i < q ∧ q ≤ m)]
    by_cases hp2 : p = i
    · rw [if_neg (by omega : ¬ (i < p ∧ p ≤ m)), if_pos hp2]
      exact ho.asymm _ _ (h2 _ (by omega) (by omega))
    · rw [if_pos (by omega : i < p ∧ p ≤ m)]
      exact hs _ _ (by omega) (by omega) (by omega)
def Cross (lt : α → α → Bool) (f : Nat → α) (a m b : Nat) : Prop := ∀ x y, a ≤ x → x < m → m ≤ y → y < b → lt (f y) (f x) = false
theorem so_join {f : Nat → α} {a m b : Nat} (h1 : SOf lt f a m) (h2 : SOf lt f m b) (h3 : Cross lt f a m b) : SOf lt f a b := by
  intro i j g1 g2 g3
  by_cases hj : j < m
  · exact h1 i j g1 g2 hj
  · by_cases hi : m ≤ i
    · exact h2 i j hi g2 g3
    · exact h3 i j g1 (by omega) (by omega) g3
theorem Cross.left {M M' : List α} {a m b : Nat} (h : Cross lt (fun k => M.getD k z) a m b) (k : Kept z M M' a m) : Cross lt (fun k => M'.getD k z) a m b := by
  intro x y g1 g2 g3 g4
  obtain ⟨q, q1, q2, e⟩ := k.inn x g1 g2
  show lt (M'.getD y z) (M'.getD x z) = false
  rw [k.out y (.inr g3), e]
  exact h q y q1 q2 g3 g4
theorem Cross.right {M M' : List α} {a m b : Nat} (h : Cross lt (fun k => M.getD k z) a m b) (k : Kept z M M' m b) : Cross lt (fun k => M'.getD k z) a m b := by
  intro x y g1 g2 g3 g4
  obtain ⟨q, q1, q2, e⟩ := k.inn y g3 g4
  show lt (M'.getD y z) (M'.getD x z) = false
  rw [k.out x (.inl g2), e]
  exact h x q g1 g2 q1 q2
/-- Where symMerge cuts: what it found of start. -/
structure Cut (lt : α → α → Bool) (f : Nat → α) (a m b mid start : Nat) : Prop where
  lo : a ≤ start
  hm : start ≤ m
  hd : start ≤ mid
  e1 : m + mid - start ≤ b
  l : ∀ c, a ≤ c → m + mid ≤ c + b → c < start → lt (f (m + mid - 1 - c)) (f c) = false
  r : ∀ c, start ≤ c → c < m → c < mid → lt (f (m + mid - 1 - c)) (f c) = true
/-- Smaller or alike, over one between. -/
theorem Ordr.le3 (ho : Ordr lt) {x y w v : α} (h1 : lt y x = false) (h2 : lt w y = false) (h3 : lt v w = false) : lt v x = false := ho.trans _ _ _ (ho.trans _ _ _ h1 h2) h3
theorem SOf.le (ho : Ordr lt) {f : Nat → α} {a b i j : Nat} (h : SOf lt f a b) (h1 : a ≤ i) (h2 : i ≤ j) (h3 : j < b) : lt (f j) (f i) = false := by
  by_cases e : i = j
  · subst e; exact ho.irrefl _
  · exact h i j h1 (by omega) h3
theorem cut_cross (ho : Ordr lt) {f : Nat → α} {a m b mid start : Nat} (h1 : SOf lt f a m) (h2 : SOf lt f m b) (hc : Cut lt f a m b mid start) (ham : a ≤ m) (hmb : m ≤ b) (hmid : a ≤ mid) (hmid' : mid ≤ b) : Cross lt (rotF f start m (m + mid - start)) a mid b := by
  have hlo := hc.lo
  have hhm := hc.hm
  have hhd := hc.hd
  have he1 := hc.e1
  intro x y g1 g2 g3 g4
  have ex : rotF f start m (m + mid - start) x = if x < start then f x else f (x + (m - start)) := by
    unfold rotF
    repeat' split
    all_goals first | rfl | (exfalso; omega) | (congr 1; omega)
  have ey : rotF f start m (m + mid - start) y = if y < m + mid - start then f (y - (mid - start)) else f y := by
    unfold rotF
    repeat' split
    all_goals first | rfl | (exfalso; omega) | (congr 1; omega)
  rw [ex, ey]
  by_cases hx : x < start
  · rw [if_pos hx]
    by_cases hy : y < m + mid - start
    · rw [if_pos hy]
      exact h1.le ho g1 (by omega) (by omega)
    · rw [if_neg hy]
      have hp := hc.l (start - 1) (by omega) (by omega) (by omega)
      rw [show m + mid - 1 - (start - 1) = m + mid - start by omega] at hp
      exact ho.le3 (h1.le ho (j := start - 1) g1 (by omega) (by omega)) hp (h2.le ho (by omega) (by omega) g4)
  · rw [if_neg hx]
    by_cases hy : y < m + mid - start
    · rw [if_pos hy]
      have hp := hc.r start (Nat.le_refl _) (by omega) (by omega)
      exact ho.le3 (h2.le ho (j := m + mid - 1 - start) (by omega) (by omega) (by omega)) (ho.asymm _ _ hp) (h1.le ho (by omega) (by omega) (by omega))
    · rw [if_neg hy]
      exact h2.le ho (by omega) (by omega) g4
theorem rot_so1 {f : Nat → α} {a m b mid start : Nat} (h1 : SOf lt f a m) (hm : start ≤ m) : SOf lt (rotF f start m (m + mid - start)) a start := by
  intro i j g1 g2 g3
  rw [show rotF f start m (m + mid - start) i = f i by unfold rotF; rw [if_neg (by omega), if_neg (by omega)], show rotF f start m (m + mid - start) j = f j by unfold rotF; rw [if_neg (by omega), if_neg (by omega)]]
  exact h1 i j g1 g2 (by omega)
theorem rot_so2 {f : Nat → α} {a m b mid start : Nat} (h2 : SOf lt f m b) (hm : start ≤ m) (hd : start ≤ mid) (he : m + mid - start ≤ b) : SOf lt (rotF f start m (m + mid - start)) start mid := by
  intro i j g1 g2 g3
  rw [show rotF f start m (m + mid - start) i = f (i + (m - start)) by unfold rotF; rw [if_pos (by omega)], show rotF f start m (m + mid - start) j = f (j + (m - start)) by unfold rotF; rw [if_pos (by omega)]]
  exact h2 _ _ (by omega) (by omega) (by omega)
theorem rot_so3 {f : Nat → α} {a m b mid start : Nat} (h1 : SOf lt f a m) (hlo : a ≤ start) (hm : start ≤ m) (hd : start ≤ mid) : SOf lt (rotF f start m (m + mid - start)) mid (m + mid - start) := by
  intro i j g1 g2 g3
  rw [show rotF f start m (m + mid - start) i = f (i - (mid - start)) by unfold rotF; rw [if_neg (by omega), if_pos (by omega)]; congr 1; omega, show rotF f start m (m + mid - start) j = f (j - (mid - start)) by unfold rotF; rw [if_neg (by omega), if_pos (by omega)]; congr 1; omega]
  exact h1 _ _ (by omega) (by omega) (by omega)
theorem rot_so4 {f : Nat → α} {a m b mid start : Nat} (h2 : SOf lt f m b) (hm : start ≤ m) (hd : start ≤ mid) : SOf lt (rotF f start m (m + mid - start)) (m + mid - start) b := by
  intro i j g1 g2 g3
  rw [show rotF f start m (m + mid - start) i = f i by unfold rotF; rw [if_neg (by omega), if_neg (by omega)], show rotF f start m (m + mid - start) j = f j by unfold rotF; rw [if_neg (by omega), if_neg (by omega)]]
  exact h2 i j (by omega) g2 g3
end
end Go.Proofs.Ytkcgokkgefgcjaa.H
end
section
namespace Go.Proofs.Ytkcgokkgefgcjaa.H
open Go.RowKit Go.MapKept
set_option linter.unusedVariables false
set_option linter.unusedSimpArgs false
/-- A state with a row at q. -/
def Lay {α : Type} (enc : α → List HV) (rest : List HV) (s : HS) (q : Nat) (M : List α) : HS := s.set q (.cells (rows enc M ++ rest))
section
variable {P : Program} {α : Type} {enc : α → List HV} {sz : Nat} {z : α} {rest : List HV} {s : HS} {q : Nat} {lt : α → α → Bool}
theorem lay_at (M : List α) : Lay enc rest s q M q = some (.cells (rows enc M ++ rest)) := set_at _ _ _
theorem lay_self {t : HS} {M : List α} (h : t q = some (.cells (rows enc M ++ rest))) : Lay enc rest t q M = t := by
  funext k
  simp only [Lay, HS.set]
  split
  · rename_i e; rw [e, h]
  · rfl
theorem lay_set (M M' : List α) : (Lay enc rest s q M).set q (.cells (rows enc M' ++ rest)) = Lay enc rest s q M' := by
  funext k
  simp only [Lay, HS.set]
  split <;> rfl
theorem lay_idx {n : Nat} {f : Bool} {i : Nat} (hi : i < n) : vIdx sz (.view q 0 sz n f) (.lit (.int .i64 i)) = some (.ptr q (i * sz)) := by rw [idx_view .i64 hi, Nat.zero_add]
theorem lay_load (h : ∀ x, (enc x).length = sz) (M : List α) {i : Nat} (hi : i < M.length) : vLoad (Lay enc rest s q M) (.ptr q (i * sz)) sz true = some (.agg (enc (M.getD i z))) := load_rows h z (lay_at M) hi
theorem lay_store (h : ∀ x, (enc x).length = sz) (ho : ∀ x, ∀ y ∈ enc x, hone y = true) (M : List α) {i : Nat} (hi : i < M.length) (v : α) {K : HS → Prop} (hK : K (Lay enc rest s q (M.set i v))) : hStore (Lay enc rest s q M) (.ptr q (i * sz)) (.agg (enc v)) sz K := by
  refine store_rows h (lay_at M) hi v (ho v) ?_
  rw [lay_set]
  exact hK
/-- A comparison answers as the order does, and changes nothing. -/
def CmpOk (P : Program) (cmp : HV) (enc : α → List HV) (lt : α → α → Bool) (rest : List HV) (s : HS) (q : Nat) : Prop :=
  ∀ (M : List α) (x y : α) (K : HV → HS → Prop), (∀ n : Int, (n < 0 ↔ lt x y = true) → K (.lit (.int .i64 n)) (Lay enc rest s q M)) → hcall P cmp [.agg (enc x), .agg (enc y)] (Lay enc rest s q M) K
theorem add_i {a b : Nat} (h : a + b < 9223372036854775808) : vBin .add (.lit (.int .i64 (a : Int))) (.lit (.int .i64 (b : Int))) = some (.lit (.int .i64 ((a + b : Nat) : Int))) := by
  simp only [vBin, if_true]
  rw [w64 (by omega) (by omega), Int.natCast_add]
theorem sub_i {a b : Nat} (h : b ≤ a) (h' : a < 9223372036854775808) : vBin .sub (.lit (.int .i64 (a : Int))) (.lit (.int .i64 (b : Int))) = some (.lit (.int .i64 ((a - b : Nat) : Int))) := by
  simp only [vBin, if_true]
  rw [w64 (by omega) (by omega), Int.natCast_sub h]
theorem mul_i {a b : Nat} (h : a * b < 9223372036854775808) : vBin .mul (.lit (.int .i64 (a : Int))) (.lit (.int .i64 (b : Int))) = some (.lit (.int .i64 ((a * b : Nat) : Int))) := by
  simp only [vBin, if_true]
  rw [← Int.natCast_mul, w64 (by omega) (by omega)]
theorem lss_i (a b : Nat) : vBin .lss (.lit (.int .i64 (a : Int))) (.lit (.int .i64 (b : Int))) = some (.lit (.bool (decide (a < b)))) := by
  simp only [vBin, if_true]
  congr 3
  simp
theorem leq_i (a b : Nat) : vBin .leq (.lit (.int .i64 (a : Int))) (.lit (.int .i64 (b : Int))) = some (.lit (.bool (decide (a ≤ b)))) := by
  simp only [vBin, if_true]
  congr 3
  simp
theorem gtr_i (a b : Nat) : vBin .gtr (.lit (.int .i64 (a : Int))) (.lit (.int .i64 (b : Int))) = some (.lit (.bool (decide (b < a)))) := by
  simp only [vBin, if_true]
  congr 3
  simp
theorem eql_i (d : Option TypeDesc) (a b : Nat) : vCmp d .eql (.lit (.int .i64 (a : Int))) (.lit (.int .i64 (b : Int))) = some (.lit (.bool (decide (a = b)))) := by
  simp only [vCmp, vBin, if_true]
  congr 3
  rw [Bool.eq_iff_iff]
  simp
  exact Int.ofNat_inj
theorem neq_i (d : Option TypeDesc) (a b : Nat) : vCmp d .neq (.lit (.int .i64 (a : Int))) (.lit (.int .i64 (b : Int))) = some (.lit (.bool (decide (a ≠ b)))) := by
  simp only [vCmp, vBin, if_true]
  congr 3
  rw [Bool.eq_iff_iff]
  simp
  exact not_congr Int.ofNat_inj
theorem lt0 {n : Int} : vBin .lss (.lit (.int .i64 n)) (.lit (.int .i64 0)) = some (.lit (.bool (decide (n < 0)))) := by simp only [vBin, if_true]
/-- insertionSortCmpFunc's text. -/
def insT (P : Program) (sz : Nat) (a0 a1 a2 a3 : HV) (s : HS) (Q : HV → HS → Prop) : Prop :=
  bindO (vBin .add a1 (.lit (.int .i64 1))) fun x1 => HLoop (fun y3 s4 K2 => bindO (vBin .lss (y3.headD .junk) a2) fun x5 => hcond x5 (HLoop (fun y7 s8 K6 => Join (fun K9 => bindO (vBin .gtr (y7.headD .junk) a1) fun x12 => hcond x12 (bindO (vIdx sz a0 (y7.headD .junk)) fun x13 => bindO (vLoad s8 x13 sz true) fun x14 => bindO (vBin .sub (y7.headD .junk) (.lit (.int .i64 1))) fun x15 => bindO (vIdx sz a0 x15) fun x16 => bindO (vLoad s8 x16 sz true) fun x17 => hcall P a3 [x14, x17] s8 (fun r18 s19 => bindO (vBin .lss r18 (.lit (.int .i64 0))) fun x20 => K9 [x20] s19)) (K9 [(.lit (.bool false))] s8)) (fun y10 s11 => hcond (y10.headD .junk) (bindO (vBin .sub (y7.headD .junk) (.lit (.int .i64 1))) fun x21 => bindO (vBin .sub (y7.headD .junk) (.lit (.int .i64 1))) fun x22 => bindO (vIdx sz a0 x22) fun x23 => bindO (vLoad s11 x23 sz true) fun x24 => bindO (vIdx sz a0 (y7.headD .junk)) fun x25 => bindO (vLoad s11 x25 sz true) fun x26 => bindO (vIdx sz a0 (y7.headD .junk)) fun x27 => hStore s11 x27 x24 sz (fun s28 => bindO (vIdx sz a0 x21) fun x29 => hStore s28 x29 x26 sz (fun s30 => bindO (vBin .sub (y7.headD .junk) (.lit (.int .i64 1))) fun x31 => K6 [x31] s30))) (bindO (vBin .add (y3.headD .junk) (.lit (.int .i64 1))) fun x32 => K2 [x32] s11))) [(y3.headD .junk)] s4) (Q (.tup []) s4)) [x1] s
/-- Where two elements are put into each other's place. -/
theorem swap_walk (h : ∀ x, (enc x).length = sz) (ho : ∀ x, ∀ y ∈ enc x, hone y = true) {M : List α} {i j : Nat} (hi : i < M.length) (hj : j < M.length) {K : HS → Prop} (hK : K (Lay enc rest s q (swap z M i j))) :
    hStore (Lay enc rest s q M) (.ptr q (i * sz)) (.agg (enc (M.getD j z))) sz (fun s28 => hStore s28 (.ptr q (j * sz)) (.agg (enc (M.getD i z))) sz K) := by
  refine lay_store h ho M hi _ ?_
  exact lay_store h ho _ (by rw [List.length_set]; exact hj) _ hK
theorem ins_ok (hO : Ordr lt) (h : ∀ x, (enc x).length = sz) (ho : ∀ x, ∀ y ∈ enc x, hone y = true) {cmp : HV} (hc : CmpOk P cmp enc lt rest s q) {M : List α} {a b : Nat} {f : Bool} {Q : HV → HS → Prop} (hb : b ≤ M.length) (hl : M.length < 1099511627776) (hab : a ≤ b)
    (hQ : ∀ M', Kept z M M' a b → SO z lt M' a b → Q (.tup []) (Lay enc rest s q M')) :
    insT P sz (.view q 0 sz M.length f) (.lit (.int .i64 (a : Int))) (.lit (.int .i64 (b : Int))) cmp (Lay enc rest s q M) Q := by
  unfold insT
  rw [show (HV.lit (.int .i64 1)) = .lit (.int .i64 ((1 : Nat) : Int)) from rfl, add_i (by omega)]
  simp only [bindO]
  refine HLoop.ghost (σ := Nat × List α) (fun g => [.lit (.int .i64 (g.1 : Int))]) (fun g t => a + 1 ≤ g.1 ∧ (g.1 ≤ b ∨ g.1 = a + 1) ∧ Kept z M g.2 a b ∧ SO z lt g.2 a (min g.1 b) ∧ t = Lay enc rest s q g.2) (fun g => b - g.1) (a + 1, M) rfl ⟨Nat.le_refl _, .inr rfl, Kept.refl M a b, ?_, rfl⟩ ?_
  · intro i j g1 g2 g3
    omega
  rintro ⟨i, M1⟩ t K ⟨h1, h2, h3, h4, rfl⟩ hK
  simp only at h1 h2 h3 h4
  have hlen := h3.len
  simp only [List.headD_cons, lss_i]
  by_cases hib : i < b
  · simp only [hib, decide_true, hcond]
    rw [Nat.min_eq_left (by omega)] at h4
    refine HLoop.ghost (σ := Nat × List α) (fun g => [.lit (.int .i64 (g.1 : Int))]) (fun g t => a ≤ g.1 ∧ g.1 ≤ i ∧ Kept z M g.2 a b ∧ Ins z lt g.2 a i g.1 ∧ t = Lay enc rest s q g.2) (fun g => g.1) (i, M1) rfl ⟨by omega, Nat.le_refl _, h3, Ins.start h4, rfl⟩ ?_
    rintro ⟨j, M2⟩ t K2 ⟨k1, k2, k3, k4, rfl⟩ hK2
    simp only at k1 k2 k3 k4
    have hlen2 := k3.len
    simp only [List.headD_cons, gtr_i]
    refine Join.of (fun xs t => t = Lay enc rest s q M2 ∧ ∃ c : Bool, xs = [.lit (.bool c)] ∧ (c = true → a < j ∧ lt (M2.getD j z) (M2.getD (j - 1) z) = true) ∧ (c = false → j = a ∨ lt (M2.getD j z) (M2.getD (j - 1) z) = false)) ?_ ?_
    · rintro _ t ⟨rfl, c, rfl, c1, c2⟩
      cases c with
      | true =>
        obtain ⟨c3, c4⟩ := c1 rfl
        simp only [List.headD_cons, sub_i (show 1 ≤ j by omega) (by omega), lay_idx (show j - 1 < M.length by omega), lay_idx (show j < M.length by omega), lay_load (z := z) h M2 (show j - 1 < M2.length by omega), lay_load (z := z) h M2 (show j < M2.length by omega)]
        refine swap_walk (M := M2) (i := j) (j := j - 1) h ho (by omega) (by omega) ?_
        exact hK2 (j - 1, swap z M2 j (j - 1)) _ _ rfl ⟨by show a ≤ j - 1; omega, by show j - 1 ≤ i; omega, k3.trans (Kept.swap (by omega) (by omega) (by omega) (by omega) (by omega) (by omega)), Ins.step hO k4 (by omega) k2 c3 c4, rfl⟩ (by show j - 1 < j; omega)
      | false =>
        simp only [List.headD_cons, add_i (show i + 1 < 9223372036854775808 by omega)]
        have hso := Ins.stop hO k4 k1 k2 (c2 rfl)
        exact hK (i + 1, M2) _ _ rfl ⟨by show a + 1 ≤ i + 1; omega, .inl (by show i + 1 ≤ b; omega), k3, by rw [Nat.min_eq_left (by show i + 1 ≤ b; omega)]; exact hso, rfl⟩ (by show b - (i + 1) < b - i; omega)
    · intro K9 hK9
      by_cases hj : a < j
      · simp only [hj, decide_true, sub_i (show 1 ≤ j by omega) (show j < 9223372036854775808 by omega), lay_idx (show j - 1 < M.length by omega), lay_idx (show j < M.length by omega), lay_load (z := z) h M2 (show j - 1 < M2.length by omega), lay_load (z := z) h M2 (show j < M2.length by omega)]
        refine hc M2 _ _ _ fun n hn => ?_
        simp only [lt0]
        refine hK9 _ _ ⟨rfl, _, rfl, fun e => ⟨hj, hn.1 (by simpa using e)⟩, fun e => .inr ?_⟩
        cases e2 : lt (M2.getD j z) (M2.getD (j - 1) z) with
        | false => rfl
        | true => exact absurd (hn.2 e2) (by simpa using e)
      · simp only [hj, decide_false]
        exact hK9 _ _ ⟨rfl, _, rfl, fun e => by simp at e, fun _ => .inl (by omega)⟩
  · simp only [hib, decide_false, hcond]
    rw [Nat.min_eq_right (by omega)] at h4
    exact hQ M1 h3 h4
end
end Go.Proofs.Ytkcgokkgefgcjaa.H
end
section
namespace Go.Proofs.Ytkcgokkgefgcjaa.H
open Go.RowKit Go.MapKept
set_option linter.unusedVariables false
set_option linter.unusedSimpArgs false
def swrT (P : Program) (sz : Nat) (a0 a1 a2 a3 a4 : HV) (s : HS) (Q : HV → HS → Prop) : Prop :=
  HLoop (fun y2 s3 K1 => bindO (vBin .lss (y2.headD .junk) a3) fun x4 => hcond x4 (bindO (vBin .add a1 (y2.headD .junk)) fun x5 => bindO (vBin .add a2 (y2.headD .junk)) fun x6 => bindO (vBin .add a2 (y2.headD .junk)) fun x7 => bindO (vIdx sz a0 x7) fun x8 => bindO (vLoad s3 x8 sz true) fun x9 => bindO (vBin .add a1 (y2.headD .junk)) fun x10 => bindO (vIdx sz a0 x10) fun x11 => bindO (vLoad s3 x11 sz true) fun x12 => bindO (vIdx sz a0 x5) fun x13 => hStore s3 x13 x9 sz (fun s14 => bindO (vIdx sz a0 x6) fun x15 => hStore s14 x15 x12 sz (fun s16 => bindO (vBin .add (y2.headD .junk) (.lit (.int .i64 1))) fun x17 => K1 [x17] s16))) (Q (.tup []) s3)) [(.lit (.int .i64 0))] s
def rotT (P : Program) (sz : Nat) (u3 gw : Nat) (a0 a1 a2 a3 a4 : HV) (s : HS) (Q : HV → HS → Prop) : Prop :=
  bindO (vBin .sub a2 a1) fun x1 => bindO (vBin .sub a3 a2) fun x2 => HLoop (fun y4 s5 K3 => bindO (vCmp (P.underlying u3) .neq (y4.headD .junk) (y4.tail.headD .junk)) fun x6 => hcond x6 (bindO (vBin .gtr (y4.headD .junk) (y4.tail.headD .junk)) fun x7 => hcond x7 (bindO (vBin .sub a2 (y4.headD .junk)) fun x8 => HC P gw [a0, x8, a2, (y4.tail.headD .junk), a4] s5 (fun r9 s10 => bindO (vBin .sub (y4.headD .junk) (y4.tail.headD .junk)) fun x11 => K3 [x11, (y4.tail.headD .junk)] s10)) (bindO (vBin .sub a2 (y4.headD .junk)) fun x12 => bindO (vBin .add a2 (y4.tail.headD .junk)) fun x13 => bindO (vBin .sub x13 (y4.headD .junk)) fun x14 => HC P gw [a0, x12, x14, (y4.headD .junk), a4] s5 (fun r15 s16 => bindO (vBin .sub (y4.tail.headD .junk) (y4.headD .junk)) fun x17 => K3 [(y4.headD .junk), x17] s16))) (bindO (vBin .sub a2 (y4.headD .junk)) fun x18 => HC P gw [a0, x18, a2, (y4.headD .junk), a4] s5 (fun r19 s20 => Q (.tup []) s20))) [x1, x2] s
def symT (P : Program) (sz : Nat) (u3 gr gs : Nat) (a0 a1 a2 a3 a4 : HV) (s : HS) (Q : HV → HS → Prop) : Prop :=
  bindO (vBin .sub a2 a1) fun x1 => bindO (vCmp (P.underlying u3) .eql x1 (.lit (.int .i64 1))) fun x2 => hcond x2 (HLoop (fun y4 s5 K3 => bindO (vBin .lss (y4.headD .junk) (y4.tail.headD .junk)) fun x6 => hcond x6 (bindO (vBin .add (y4.headD .junk) (y4.tail.headD .junk)) fun x7 => bindO (vToInt .u64 x7) fun x8 => bindO (vBin .shr x8 (.lit (.int .u64 1))) fun x9 => bindO (vToInt .i64 x9) fun x10 => bindO (vIdx sz a0 x10) fun x11 => bindO (vLoad s5 x11 sz true) fun x12 => bindO (vIdx sz a0 a1) fun x13 => bindO (vLoad s5 x13 sz true) fun x14 => hcall P a4 [x12, x14] s5 (fun r15 s16 => bindO (vBin .lss r15 (.lit (.int .i64 0))) fun x17 => hcond x17 (bindO (vBin .add x10 (.lit (.int .i64 1))) fun x18 => K3 [x18, (y4.tail.headD .junk)] s16) (K3 [(y4.headD .junk), x10] s16))) (HLoop (fun y20 s21 K19 => bindO (vBin .sub (y4.headD .junk) (.lit (.int .i64 1))) fun x22 => bindO (vBin .lss (y20.headD .junk) x22) fun x23 => hcond x23 (bindO (vBin .add (y20.headD .junk) (.lit (.int .i64 1))) fun x24 => bindO (vBin .add (y20.headD .junk) (.lit (.int .i64 1))) fun x25 => bindO (vIdx sz a0 x25) fun x26 => bindO (vLoad s21 x26 sz true) fun x27 => bindO (vIdx sz a0 (y20.headD .junk)) fun x28 => bindO (vLoad s21 x28 sz true) fun x29 => bindO (vIdx sz a0 (y20.headD .junk)) fun x30 => hStore s21 x30 x27 sz (fun s31 => bindO (vIdx sz a0 x24) fun x32 => hStore s31 x32 x29 sz (fun s33 => bindO (vBin .add (y20.headD .junk) (.lit (.int .i64 1))) fun x34 => K19 [x34] s33))) (Q (.tup []) s21)) [a1] s5)) [a2, a3] s) (bindO (vBin .sub a3 a2) fun x35 => bindO (vCmp (P.underlying u3) .eql x35 (.lit (.int .i64 1))) fun x36 => hcond x36 (HLoop (fun y38 s39 K37 => bindO (vBin .lss (y38.headD .junk) (y38.tail.headD .junk)) fun x40 => hcond x40 (bindO (vBin .add (y38.headD .junk) (y38.tail.headD .junk)) fun x41 => bindO (vToInt .u64 x41) fun x42 => bindO (vBin .shr x42 (.lit (.int .u64 1))) fun x43 => bindO (vToInt .i64 x43) fun x44 => bindO (vIdx sz a0 a2) fun x45 => bindO (vLoad s39 x45 sz true) fun x46 => bindO (vIdx sz a0 x44) fun x47 => bindO (vLoad s39 x47 sz true) fun x48 => hcall P a4 [x46, x48] s39 (fun r49 s50 => bindO (vBin .lss r49 (.lit (.int .i64 0))) fun x51 => bindO (vUn .not x51) fun x52 => hcond x52 (bindO (vBin .add x44 (.lit (.int .i64 1))) fun x53 => K37 [x53, (y38.tail.headD .junk)] s50) (K37 [(y38.headD .junk), x44] s50))) (HLoop (fun y55 s56 K54 => bindO (vBin .gtr (y55.headD .junk) (y38.headD .junk)) fun x57 => hcond x57 (bindO (vBin .sub (y55.headD .junk) (.lit (.int .i64 1))) fun x58 => bindO (vBin .sub (y55.headD .junk) (.lit (.int .i64 1))) fun x59 => bindO (vIdx sz a0 x59) fun x60 => bindO (vLoad s56 x60 sz true) fun x61 => bindO (vIdx sz a0 (y55.headD .junk)) fun x62 => bindO (vLoad s56 x62 sz true) fun x63 => bindO (vIdx sz a0 (y55.headD .junk)) fun x64 => hStore s56 x64 x61 sz (fun s65 => bindO (vIdx sz a0 x58) fun x66 => hStore s65 x66 x63 sz (fun s67 => bindO (vBin .sub (y55.headD .junk) (.lit (.int .i64 1))) fun x68 => K54 [x68] s67))) (Q (.tup []) s56)) [a2] s39)) [a1, a2] s) (bindO (vBin .add a1 a3) fun x69 => bindO (vToInt .u64 x69) fun x70 => bindO (vBin .shr x70 (.lit (.int .u64 1))) fun x71 => bindO (vToInt .i64 x71) fun x72 => bindO (vBin .add x72 a2) fun x73 => Join (fun K74 => bindO (vBin .gtr a2 x72) fun x77 => hcond x77 (bindO (vBin .sub x73 a3) fun x78 => K74 [x78, x72] s) (K74 [a1, a2] s)) (fun y75 s76 => bindO (vBin .sub x73 (.lit (.int .i64 1))) fun x79 => HLoop (fun y81 s82 K80 => bindO (vBin .lss (y81.headD .junk) (y81.tail.headD .junk)) fun x83 => hcond x83 (bindO (vBin .add (y81.headD .junk) (y81.tail.headD .junk)) fun x84 => bindO (vToInt .u64 x84) fun x85 => bindO (vBin .shr x85 (.lit (.int .u64 1))) fun x86 => bindO (vToInt .i64 x86) fun x87 => bindO (vBin .sub x79 x87) fun x88 => bindO (vIdx sz a0 x88) fun x89 => bindO (vLoad s82 x89 sz true) fun x90 => bindO (vIdx sz a0 x87) fun x91 => bindO (vLoad s82 x91 sz true) fun x92 => hcall P a4 [x90, x92] s82 (fun r93 s94 => bindO (vBin .lss r93 (.lit (.int .i64 0))) fun x95 => bindO (vUn .not x95) fun x96 => hcond x96 (bindO (vBin .add x87 (.lit (.int .i64 1))) fun x97 => K80 [x97, (y81.tail.headD .junk)] s94) (K80 [(y81.headD .junk), x87] s94))) (bindO (vBin .sub x73 (y81.headD .junk)) fun x98 => Join (fun K99 => Join (fun K102 => bindO (vBin .lss (y81.headD .junk) a2) fun x105 => hcond x105 (bindO (vBin .lss a2 x98) fun x106 => K102 [x106] s82) (K102 [(.lit (.bool false))] s82)) (fun y103 s104 => hcond (y103.headD .junk) (HC P gr [a0, (y81.headD .junk), a2, x98, a4] s104 (fun r107 s108 => K99 [] s108)) (K99 [] s104))) (fun y100 s101 => Join (fun K109 => Join (fun K112 => bindO (vBin .lss a1 (y81.headD .junk)) fun x115 => hcond x115 (bindO (vBin .lss (y81.headD .junk) x72) fun x116 => K112 [x116] s101) (K112 [(.lit (.bool false))] s101)) (fun y113 s114 => hcond (y113.headD .junk) (HC P gs [a0, a1, (y81.headD .junk), x72, a4] s114 (fun r117 s118 => K109 [] s118)) (K109 [] s114))) (fun y110 s111 => Join (fun K119 => bindO (vBin .lss x72 x98) fun x122 => hcond x122 (bindO (vBin .lss x98 a3) fun x123 => K119 [x123] s111) (K119 [(.lit (.bool false))] s111)) (fun y120 s121 => hcond (y120.headD .junk) (HC P gs [a0, x72, x98, a3, a4] s121 (fun r124 s125 => Q (.tup []) s125)) (Q (.tup []) s121)))))) [(y75.headD .junk), (y75.tail.headD .junk)] s76)))
def stbT (P : Program) (sz : Nat) (gi gs : Nat) (a0 a1 a2 : HV) (s : HS) (Q : HV → HS → Prop) : Prop :=
  HLoop (fun y2 s3 K1 => bindO (vBin .leq (y2.tail.headD .junk) a1) fun x4 => hcond x4 (HC P gi [a0, (y2.headD .junk), (y2.tail.headD .junk), a2] s3 (fun r5 s6 => bindO (vBin .add (y2.tail.headD .junk) (.lit (.int .i64 20))) fun x7 => K1 [(y2.tail.headD .junk), x7] s6)) (HC P gi [a0, (y2.headD .junk), a1, a2] s3 (fun r8 s9 => HLoop (fun y11 s12 K10 => bindO (vBin .lss (y11.headD .junk) a1) fun x13 => hcond x13 (bindO (vBin .mul (.lit (.int .i64 2)) (y11.headD .junk)) fun x14 => HLoop (fun y16 s17 K15 => bindO (vBin .leq (y16.tail.headD .junk) a1) fun x18 => hcond x18 (bindO (vBin .add (y16.headD .junk) (y11.headD .junk)) fun x19 => HC P gs [a0, (y16.headD .junk), x19, (y16.tail.headD .junk), a2] s17 (fun r20 s21 => bindO (vBin .mul (.lit (.int .i64 2)) (y11.headD .junk)) fun x22 => bindO (vBin .add (y16.tail.headD .junk) x22) fun x23 => K15 [(y16.tail.headD .junk), x23] s21)) (Join (fun K24 => bindO (vBin .add (y16.headD .junk) (y11.headD .junk)) fun x27 => bindO (vBin .lss x27 a1) fun x28 => hcond x28 (HC P gs [a0, (y16.headD .junk), x27, a1, a2] s17 (fun r29 s30 => K24 [] s30)) (K24 [] s17)) (fun y25 s26 => bindO (vBin .mul (y11.headD .junk) (.lit (.int .i64 2))) fun x31 => K10 [x31] s26))) [(.lit (.int .i64 0)), x14] s12) (Q (.tup []) s12)) [(.lit (.int .i64 20))] s9))) [(.lit (.int .i64 0)), (.lit (.int .i64 20))] s
section
variable {P : Program} {α : Type} {enc : α → List HV} {sz : Nat} {z : α} {rest : List HV} {s : HS} {q : Nat} {lt : α → α → Bool} {N : Nat} {f : Bool} {cmp : HV}
theorem wlit0 : HV.lit (.int .i64 0) = .lit (.int .i64 ((0 : Nat) : Int)) := rfl
theorem wlit1 : HV.lit (.int .i64 1) = .lit (.int .i64 ((1 : Nat) : Int)) := rfl
def SwrOk (P : Program) (gw : Nat) (enc : α → List HV) (sz : Nat) (z : α) (rest : List HV) (s : HS) (q N : Nat) (f : Bool) (cmp : HV) : Prop :=
  ∀ (M : List α) (p r n : Nat) (Q : HV → HS → Prop), M.length = N → p + n ≤ r → r + n ≤ N → (∀ M', Kept z M M' p (r + n) → (∀ x, M'.getD x z = swF (fun k => M.getD k z) p r n x) → Q (.tup []) (Lay enc rest s q M')) →
    HC P gw [.view q 0 sz N f, .lit (.int .i64 (p : Int)), .lit (.int .i64 (r : Int)), .lit (.int .i64 (n : Int)), cmp] (Lay enc rest s q M) Q
theorem swr_ok (h : ∀ x, (enc x).length = sz) (ho : ∀ x, ∀ y ∈ enc x, hone y = true) {M : List α} {p r n : Nat} {Q : HV → HS → Prop} (hN : M.length = N) (hl : N < 1099511627776) (h1 : p + n ≤ r) (h2 : r + n ≤ N)
    (hQ : ∀ M', Kept z M M' p (r + n) → (∀ x, M'.getD x z = swF (fun k => M.getD k z) p r n x) → Q (.tup []) (Lay enc rest s q M')) :
    swrT P sz (.view q 0 sz N f) (.lit (.int .i64 (p : Int))) (.lit (.int .i64 (r : Int))) (.lit (.int .i64 (n : Int))) cmp (Lay enc rest s q M) Q := by
  unfold swrT
  rw [wlit0]
  refine HLoop.ghost (σ := Nat × List α) (fun g => [.lit (.int .i64 (g.1 : Int))]) (fun g t => g.1 ≤ n ∧ Kept z M g.2 p (r + n) ∧ (∀ x, g.2.getD x z = swF (fun k => M.getD k z) p r g.1 x) ∧ t = Lay enc rest s q g.2) (fun g => n - g.1) (0, M) rfl ⟨Nat.zero_le _, Kept.refl _ _ _, fun x => by rw [swF_zero], rfl⟩ ?_
  rintro ⟨i, M1⟩ t K ⟨k1, k2, k3, rfl⟩ hK
  simp only at k1 k2 k3
  have hlen := k2.len
  simp only [List.headD_cons, lss_i, bindO]
  by_cases hi : i < n
  · simp only [hi, decide_true, hcond, add_i (show p + i < 9223372036854775808 by omega), add_i (show r + i < 9223372036854775808 by omega), lay_idx (show p + i < N by omega), lay_idx (show r + i < N by omega), lay_load (z := z) h M1 (show p + i < M1.length by omega), lay_load (z := z) h M1 (show r + i < M1.length by omega)]
    refine swap_walk (M := M1) (i := p + i) (j := r + i) h ho (by omega) (by omega) ?_
    rw [wlit1, add_i (show i + 1 < 9223372036854775808 by omega)]
    exact hK (i + 1, swap z M1 (p + i) (r + i)) _ _ rfl ⟨hi, k2.trans (Kept.swap (by omega) (by omega) (by omega) (by omega) (by omega) (by omega)), swF_step k3 (by omega) (by omega), rfl⟩ (by show n - (i + 1) < n - i; omega)
  · simp only [hi, decide_false, hcond]
    obtain rfl : i = n := by omega
    exact hQ M1 k2 k3
def RotOk (P : Program) (gr : Nat) (enc : α → List HV) (sz : Nat) (z : α) (rest : List HV) (s : HS) (q N : Nat) (f : Bool) (cmp : HV) : Prop :=
  ∀ (M : List α) (a m b : Nat) (Q : HV → HS → Prop), M.length = N → a < m → m < b → b ≤ N → (∀ M', Kept z M M' a b → (∀ x, M'.getD x z = rotF (fun k => M.getD k z) a m b x) → Q (.tup []) (Lay enc rest s q M')) →
    HC P gr [.view q 0 sz N f, .lit (.int .i64 (a : Int)), .lit (.int .i64 (m : Int)), .lit (.int .i64 (b : Int)), cmp] (Lay enc rest s q M) Q
theorem rot_ok {u3 gw : Nat} (hw : SwrOk P gw enc sz z rest s q N f cmp) {M : List α} {a m b : Nat} {Q : HV → HS → Prop} (hN : M.length = N) (hl : N < 1099511627776) (h1 : a < m) (h2 : m < b) (h3 : b ≤ N)
    (hQ : ∀ M', Kept z M M' a b → (∀ x, M'.getD x z = rotF (fun k => M.getD k z) a m b x) → Q (.tup []) (Lay enc rest s q M')) :
    rotT P sz u3 gw (.view q 0 sz N f) (.lit (.int .i64 (a : Int))) (.lit (.int .i64 (m : Int))) (.lit (.int .i64 (b : Int))) cmp (Lay enc rest s q M) Q := by
  unfold rotT
  simp only [sub_i (show a ≤ m by omega) (show m < 9223372036854775808 by omega), sub_i (show m ≤ b by omega) (show b < 9223372036854775808 by omega), bindO]
  refine HLoop.ghost (σ := Nat × Nat × List α) (fun g => [.lit (.int .i64 (g.1 : Int)), .lit (.int .i64 (g.2.1 : Int))]) (fun g t => 0 < g.1 ∧ 0 < g.2.1 ∧ g.1 + a ≤ m ∧ m + g.2.1 ≤ b ∧ Kept z M g.2.2 a b ∧ (∀ x, rotF (fun k => M.getD k z) a m b x = rotF (fun k => g.2.2.getD k z) (m - g.1) m (m + g.2.1) x) ∧ t = Lay enc rest s q g.2.2) (fun g => g.1 + g.2.1) (m - a, b - m, M) rfl
    ⟨by show 0 < m - a; omega, by show 0 < b - m; omega, by show m - a + a ≤ m; omega, by show m + (b - m) ≤ b; omega, Kept.refl _ _ _, fun x => by show _ = rotF _ (m - (m - a)) m (m + (b - m)) x; rw [show m - (m - a) = a by omega, show m + (b - m) = b by omega], rfl⟩ ?_
  rintro ⟨i, j, M1⟩ t K ⟨k1, k2, k3, k4, k5, k6, rfl⟩ hK
  simp only at k1 k2 k3 k4 k5 k6
  have hlen := k5.len
  simp only [List.headD_cons, List.tail_cons, neq_i]
  by_cases hij : i = j
  · subst hij
    simp only [ne_eq, not_true_eq_false, decide_false, hcond, sub_i (show i ≤ m by omega) (show m < 9223372036854775808 by omega)]
    refine hw M1 (m - i) m i _ (by omega) (by omega) (by omega) fun M' e1 e2 => ?_
    refine hQ M' (k5.trans (e1.wide (by omega) (by omega))) fun x => ?_
    rw [e2, k6, rot_end _ (by omega)]
  · simp only [ne_eq, hij, not_false_eq_true, decide_true, hcond, gtr_i]
    by_cases hgt : j < i
    · simp only [hgt, decide_true, sub_i (show i ≤ m by omega) (show m < 9223372036854775808 by omega)]
      refine hw M1 (m - i) m j _ (by omega) (by omega) (by omega) fun M' e1 e2 => ?_
      rw [sub_i (show j ≤ i by omega) (show i < 9223372036854775808 by omega)]
      refine hK (i - j, j, M') _ _ rfl ⟨by show 0 < i - j; omega, k2, by show i - j + a ≤ m; omega, k4, k5.trans (e1.wide (by omega) (by omega)), fun x => ?_, rfl⟩ (by show i - j + j < i + j; omega)
      rw [k6, rot_step1 _ (by omega) hgt]
      exact rot_congr (fun y => (e2 y).symm) _ _ _ _
    · simp only [hgt, decide_false, sub_i (show i ≤ m by omega) (show m < 9223372036854775808 by omega), add_i (show m + j < 9223372036854775808 by omega), sub_i (show i ≤ m + j by omega) (show m + j < 9223372036854775808 by omega)]
      refine hw M1 (m - i) (m + j - i) i _ (by omega) (by omega) (by omega) fun M' e1 e2 => ?_
      rw [sub_i (show i ≤ j by omega) (show j < 9223372036854775808 by omega)]
      refine hK (i, j - i, M') _ _ rfl ⟨k1, by show 0 < j - i; omega, k3, by show m + (j - i) ≤ b; omega, k5.trans (e1.wide (by omega) (by omega)), fun x => ?_, rfl⟩ (by show i + (j - i) < i + j; omega)
      rw [k6, rot_step2 _ (by omega) (by omega)]
      exact rot_congr (fun y => (e2 y).symm) _ _ _ _
end
end Go.Proofs.Ytkcgokkgefgcjaa.H
end
section
namespace Go.Proofs.Ytkcgokkgefgcjaa.H
open Go.RowKit Go.MapKept
set_option linter.unusedVariables false
set_option linter.unusedSimpArgs false
section
variable {P : Program} {α : Type} {enc : α → List HV} {sz : Nat} {z : α} {rest : List HV} {s : HS} {q : Nat} {lt : α → α → Bool} {N : Nat} {f : Bool} {cmp : HV}
theorem u64_i {n : Nat} (h : n < 9223372036854775808) : vToInt .u64 (.lit (.int .i64 (n : Int))) = some (.lit (.int .u64 (n : Int))) := by
  have e1 : IntKind.u64.wrap (n : Int) = (n : Int) := by
    have : IntKind.u64.wrap (n : Int) = (n : Int) % 18446744073709551616 := by simp [IntKind.wrap, IntKind.signed, IntKind.bits]
    rw [this]; omega
  simp only [vToInt, e1]
theorem shr_i (n : Nat) : vBin .shr (.lit (.int .u64 (n : Int))) (.lit (.int .u64 1)) = some (.lit (.int .u64 ((n / 2 : Nat) : Int))) := by
  have e2 : (n : Int).fdiv (2 ^ (min (1 : Int).toNat 64)) = ((n / 2 : Nat) : Int) := by
    show (n : Int).fdiv 2 = _
    rw [Int.fdiv_eq_ediv_of_nonneg _ (by omega)]
    omega
  show (if (1 : Int) < 0 then none else some (HV.lit (.int .u64 ((n : Int).fdiv (2 ^ (min (1 : Int).toNat 64)))))) = _
  rw [if_neg (by omega), e2]
theorem i64_i {n : Nat} (h : n < 9223372036854775808) : vToInt .i64 (.lit (.int .u64 (n : Int))) = some (.lit (.int .i64 (n : Int))) := by
  simp only [vToInt]
  rw [w64 (by omega) (by omega)]
def SymOk (P : Program) (gs : Nat) (enc : α → List HV) (sz : Nat) (z : α) (lt : α → α → Bool) (rest : List HV) (s : HS) (q N : Nat) (f : Bool) (cmp : HV) (d : Nat) : Prop :=
  ∀ (M : List α) (a m b : Nat) (Q : HV → HS → Prop), b - a < d → M.length = N → a < m → m < b → b ≤ N → SO z lt M a m → SO z lt M m b → (∀ M', Kept z M M' a b → SO z lt M' a b → Q (.tup []) (Lay enc rest s q M')) →
    HC P gs [.view q 0 sz N f, .lit (.int .i64 (a : Int)), .lit (.int .i64 (m : Int)), .lit (.int .i64 (b : Int)), cmp] (Lay enc rest s q M) Q
theorem sym_step {u3 gr gs : Nat} (hO : Ordr lt) (h : ∀ x, (enc x).length = sz) (ho : ∀ x, ∀ y ∈ enc x, hone y = true) (hc : CmpOk P cmp enc lt rest s q) (hr : RotOk P gr enc sz z rest s q N f cmp)
    {M : List α} {a m b : Nat} {Q : HV → HS → Prop} (ih : SymOk P gs enc sz z lt rest s q N f cmp (b - a)) (hN : M.length = N) (hl : N < 1099511627776) (h1 : a < m) (h2 : m < b) (h3 : b ≤ N) (s1 : SO z lt M a m) (s2 : SO z lt M m b)
    (hQ : ∀ M', Kept z M M' a b → SO z lt M' a b → Q (.tup []) (Lay enc rest s q M')) :
    symT P sz u3 gr gs (.view q 0 sz N f) (.lit (.int .i64 (a : Int))) (.lit (.int .i64 (m : Int))) (.lit (.int .i64 (b : Int))) cmp (Lay enc rest s q M) Q := by
  have t1 : SOf lt (fun k => M.getD k z) a m := s1
  have t2 : SOf lt (fun k => M.getD k z) m b := s2
  have ld : ∀ i, i < N → vLoad (Lay enc rest s q M) (.ptr q (i * sz)) sz true = some (.agg (enc (M.getD i z))) := fun i hi => lay_load h M (by omega)
  have lss0 : ∀ n : Int, vBin .lss (.lit (.int .i64 n)) (.lit (.int .i64 0)) = some (.lit (.bool (decide (n < 0)))) := fun n => lt0
  unfold symT
  simp only [sub_i (show a ≤ m by omega) (show m < 9223372036854775808 by omega), bindO]
  rw [wlit1, eql_i]
  by_cases hc1 : m - a = 1
  · obtain rfl : m = a + 1 := by omega
    simp only [hc1, decide_true, hcond]
    refine HLoop.ghost (σ := Nat × Nat) (fun g => [.lit (.int .i64 (g.1 : Int)), .lit (.int .i64 (g.2 : Int))]) (fun g t => t = Lay enc rest s q M ∧ a + 1 ≤ g.1 ∧ g.1 ≤ g.2 ∧ g.2 ≤ b ∧ (∀ k, a + 1 ≤ k → k < g.1 → lt (M.getD k z) (M.getD a z) = true) ∧ (∀ k, g.2 ≤ k → k < b → lt (M.getD k z) (M.getD a z) = false)) (fun g => g.2 - g.1) (a + 1, b) rfl
      ⟨rfl, Nat.le_refl _, by show a + 1 ≤ b; omega, Nat.le_refl _, fun k k1 k2 => by simp only at k2; omega, fun k k1 k2 => by simp only at k1; omega⟩ ?_
    rintro ⟨i, j⟩ t K ⟨rfl, k1, k2, k3, k4, k5⟩ hK
    simp only at k1 k2 k3 k4 k5
    simp only [List.headD_cons, List.tail_cons, lss_i]
    by_cases hij : i < j
    · simp only [hij, decide_true, add_i (show i + j < 9223372036854775808 by omega), u64_i (show i + j < 9223372036854775808 by omega), shr_i, i64_i (show (i + j) / 2 < 9223372036854775808 by omega)]
      obtain ⟨c, hcd⟩ : ∃ c, c = (i + j) / 2 := ⟨_, rfl⟩
      have hci : i ≤ c := by omega
      have hcj : c < j := by omega
      rw [← hcd]
      simp only [lay_idx (show c < N by omega), lay_idx (show a < N by omega), ld c (by omega), ld a (by omega)]
      refine hc M _ _ _ fun n hn => ?_
      simp only [lss0]
      by_cases hn0 : n < 0
      · simp only [hn0, decide_true, add_i (show c + 1 < 9223372036854775808 by omega)]
        have hl0 := hn.1 hn0
        refine hK (c + 1, j) _ _ rfl ⟨rfl, by show a + 1 ≤ c + 1; omega, by show c + 1 ≤ j; omega, k3, fun k g1 g2 => ?_, k5⟩ (by show j - (c + 1) < j - i; omega)
        simp only at g2
        cases e : lt (M.getD k z) (M.getD a z) with
        | true => rfl
        | false =>
          have := hO.trans _ _ _ e (t2.le hO (i := k) (j := c) (by omega) (by omega) (by omega))
          rw [hl0] at this; cases this
      · simp only [hn0, decide_false]
        have hl0 : lt (M.getD c z) (M.getD a z) = false := by
          cases e : lt (M.getD c z) (M.getD a z) with
          | false => rfl
          | true => exact absurd (hn.2 e) hn0
        refine hK (i, c) _ _ rfl ⟨rfl, k1, hci, by show c ≤ b; omega, k4, fun k g1 g2 => ?_⟩ (by show c - i < j - i; omega)
        simp only at g1
        exact hO.trans _ _ _ hl0 (t2.le hO (i := c) (j := k) (by omega) (by omega) (by omega))
    · simp only [hij, decide_false]
      obtain rfl : i = j := by omega
      refine HLoop.ghost (σ := Nat × List α) (fun g => [.lit (.int .i64 (g.1 : Int))]) (fun g t => a ≤ g.1 ∧ g.1 ≤ i - 1 ∧ Kept z M g.2 a b ∧ (∀ x, g.2.getD x z = shR (fun k => M.getD k z) a g.1 x) ∧ t = Lay enc rest s q g.2) (fun g => i - g.1) (a, M) rfl
        ⟨Nat.le_refl _, by show a ≤ i - 1; omega, Kept.refl _ _ _, fun x => by rw [shR_zero], rfl⟩ ?_
      rintro ⟨k, M1⟩ t K2 ⟨g1, g2, g3, g4, rfl⟩ hK2
      simp only at g1 g2 g3 g4
      have hlen := g3.len
      simp only [List.headD_cons, sub_i (show 1 ≤ i by omega) (show i < 9223372036854775808 by omega), lss_i]
      by_cases hki : k < i - 1
      · simp only [hki, decide_true, add_i (show k + 1 < 9223372036854775808 by omega), lay_idx (show k + 1 < N by omega), lay_idx (show k < N by omega), lay_load (z := z) h M1 (show k + 1 < M1.length by omega), lay_load (z := z) h M1 (show k < M1.length by omega)]
        refine swap_walk (M := M1) (i := k) (j := k + 1) h ho (by omega) (by omega) ?_
        exact hK2 (k + 1, swap z M1 k (k + 1)) _ _ rfl ⟨by show a ≤ k + 1; omega, by show k + 1 ≤ i - 1; omega, g3.trans (Kept.swap (by omega) (by omega) (by omega) (by omega) (by omega) (by omega)), shR_step g4 g1 (by omega), rfl⟩ (by show i - (k + 1) < i - k; omega)
      · simp only [hki, decide_false]
        obtain rfl : k = i - 1 := by omega
        refine hQ M1 g3 ?_
        have := shR_so hO t2 k1 k3 k4 k5
        rw [so_iff, show (fun k => M1.getD k z) = shR (fun k => M.getD k z) a (i - 1) from funext g4]
        exact this
  · simp only [hc1, decide_false, hcond, sub_i (show m ≤ b by omega) (show b < 9223372036854775808 by omega), eql_i]
    by_cases hc2 : b - m = 1
    · obtain rfl : b = m + 1 := by omega
      simp only [hc2, decide_true]
      refine HLoop.ghost (σ := Nat × Nat) (fun g => [.lit (.int .i64 (g.1 : Int)), .lit (.int .i64 (g.2 : Int))]) (fun g t => t = Lay enc rest s q M ∧ a ≤ g.1 ∧ g.1 ≤ g.2 ∧ g.2 ≤ m ∧ (∀ k, a ≤ k → k < g.1 → lt (M.getD m z) (M.getD k z) = false) ∧ (∀ k, g.2 ≤ k → k < m → lt (M.getD m z) (M.getD k z) = true)) (fun g => g.2 - g.1) (a, m) rfl
        ⟨rfl, Nat.le_refl _, by show a ≤ m; omega, Nat.le_refl _, fun k k1 k2 => by simp only at k2; omega, fun k k1 k2 => by simp only at k1; omega⟩ ?_
      rintro ⟨i, j⟩ t K ⟨rfl, k1, k2, k3, k4, k5⟩ hK
      simp only at k1 k2 k3 k4 k5
      simp only [List.headD_cons, List.tail_cons, lss_i]
      by_cases hij : i < j
      · simp only [hij, decide_true, add_i (show i + j < 9223372036854775808 by omega), u64_i (show i + j < 9223372036854775808 by omega), shr_i, i64_i (show (i + j) / 2 < 9223372036854775808 by omega)]
        obtain ⟨c, hcd⟩ : ∃ c, c = (i + j) / 2 := ⟨_, rfl⟩
        have hci : i ≤ c := by omega
        have hcj : c < j := by omega
        rw [← hcd]
        simp only [lay_idx (show c < N by omega), lay_idx (show m < N by omega), ld c (by omega), ld m (by omega)]
        refine hc M _ _ _ fun n hn => ?_
        simp only [lss0, vUn]
        by_cases hn0 : n < 0
        · simp only [hn0, decide_true, Bool.not_true]
          have hl0 := hn.1 hn0
          refine hK (i, c) _ _ rfl ⟨rfl, k1, hci, by show c ≤ m; omega, k4, fun k g1 g2 => ?_⟩ (by show c - i < j - i; omega)
          simp only at g1
          cases e : lt (M.getD m z) (M.getD k z) with
          | true => rfl
          | false =>
            have := hO.trans _ _ _ (t1.le hO (i := c) (j := k) (by omega) (by omega) (by omega)) e
            rw [hl0] at this; cases this
        · simp only [hn0, decide_false, Bool.not_false, add_i (show c + 1 < 9223372036854775808 by omega)]
          have hl0 : lt (M.getD m z) (M.getD c z) = false := by
            cases e : lt (M.getD m z) (M.getD c z) with
            | false => rfl
            | true => exact absurd (hn.2 e) hn0
          refine hK (c + 1, j) _ _ rfl ⟨rfl, by show a ≤ c + 1; omega, by show c + 1 ≤ j; omega, k3, fun k g1 g2 => ?_, k5⟩ (by show j - (c + 1) < j - i; omega)
          simp only at g2
          exact hO.trans _ _ _ (t1.le hO (i := k) (j := c) (by omega) (by omega) (by omega)) hl0
      · simp only [hij, decide_false]
        obtain rfl : i = j := by omega
        refine HLoop.ghost (σ := Nat × List α) (fun g => [.lit (.int .i64 (g.1 : Int))]) (fun g t => i ≤ g.1 ∧ g.1 ≤ m ∧ Kept z M g.2 a (m + 1) ∧ (∀ x, g.2.getD x z = shL (fun k => M.getD k z) m g.1 x) ∧ t = Lay enc rest s q g.2) (fun g => g.1) (m, M) rfl
          ⟨k3, Nat.le_refl _, Kept.refl _ _ _, fun x => by rw [shL_zero], rfl⟩ ?_
        rintro ⟨k, M1⟩ t K2 ⟨g1, g2, g3, g4, rfl⟩ hK2
        simp only at g1 g2 g3 g4
        have hlen := g3.len
        simp only [List.headD_cons, gtr_i]
        by_cases hki : i < k
        · simp only [hki, decide_true, sub_i (show 1 ≤ k by omega) (show k < 9223372036854775808 by omega), lay_idx (show k - 1 < N by omega), lay_idx (show k < N by omega), lay_load (z := z) h M1 (show k - 1 < M1.length by omega), lay_load (z := z) h M1 (show k < M1.length by omega)]
          refine swap_walk (M := M1) (i := k) (j := k - 1) h ho (by omega) (by omega) ?_
          exact hK2 (k - 1, swap z M1 k (k - 1)) _ _ rfl ⟨by show i ≤ k - 1; omega, by show k - 1 ≤ m; omega, g3.trans (Kept.swap (by omega) (by omega) (by omega) (by omega) (by omega) (by omega)), shL_step g4 g2 (by omega) (by omega), rfl⟩ (by show k - 1 < k; omega)
        · simp only [hki, decide_false]
          obtain rfl : k = i := by omega
          refine hQ M1 g3 ?_
          have := shL_so hO t1 k1 k3 k4 k5
          rw [so_iff, show (fun k => M1.getD k z) = shL (fun k => M.getD k z) m k from funext g4]
          exact this
    · simp only [hc2, decide_false, add_i (show a + b < 9223372036854775808 by omega), u64_i (show a + b < 9223372036854775808 by omega), shr_i, i64_i (show (a + b) / 2 < 9223372036854775808 by omega)]
      obtain ⟨mid, hmd⟩ : ∃ mid, mid = (a + b) / 2 := ⟨_, rfl⟩
      rw [← hmd]
      simp only [add_i (show mid + m < 9223372036854775808 by omega)]
      refine Join.of (fun xs t => t = Lay enc rest s q M ∧ ∃ lo hi : Nat, xs = [.lit (.int .i64 (lo : Int)), .lit (.int .i64 (hi : Int))] ∧ (mid < m ∧ lo = mid + m - b ∧ hi = mid ∨ m ≤ mid ∧ lo = a ∧ hi = m)) ?_ ?_
      rotate_left
      · intro K hK
        simp only [gtr_i]
        by_cases hgt : mid < m
        · simp only [hgt, decide_true, sub_i (show b ≤ mid + m by omega) (show mid + m < 9223372036854775808 by omega)]
          exact hK _ _ ⟨rfl, _, _, rfl, .inl ⟨hgt, rfl, rfl⟩⟩
        · simp only [hgt, decide_false]
          exact hK _ _ ⟨rfl, _, _, rfl, .inr ⟨by omega, rfl, rfl⟩⟩
      rintro _ t ⟨rfl, lo, hi, rfl, hlh⟩
      simp only [List.headD_cons, List.tail_cons, sub_i (show 1 ≤ mid + m by omega) (show mid + m < 9223372036854775808 by omega)]
      have hlo1 : a ≤ lo := by omega
      have hlo2 : lo ≤ hi := by omega
      have hlo3 : hi ≤ m := by omega
      have hlo4 : hi ≤ mid := by omega
      have hlo5 : mid + m ≤ lo + b := by omega
      have hlo6 : mid + m - 1 - (hi - 1) ≤ mid + m := by omega
      have hpm : ∀ c, c < hi → m ≤ mid + m - 1 - c := fun c hc => by omega
      have hpb : ∀ c, lo ≤ c → mid + m - 1 - c < b := fun c hc => by omega
      refine HLoop.ghost (σ := Nat × Nat) (fun g => [.lit (.int .i64 (g.1 : Int)), .lit (.int .i64 (g.2 : Int))]) (fun g t => t = Lay enc rest s q M ∧ lo ≤ g.1 ∧ g.1 ≤ g.2 ∧ g.2 ≤ hi ∧ (∀ c, lo ≤ c → c < g.1 → lt (M.getD (mid + m - 1 - c) z) (M.getD c z) = false) ∧ (∀ c, g.2 ≤ c → c < hi → lt (M.getD (mid + m - 1 - c) z) (M.getD c z) = true)) (fun g => g.2 - g.1) (lo, hi) rfl
        ⟨rfl, Nat.le_refl _, hlo2, Nat.le_refl _, fun k k1 k2 => by simp only at k2; omega, fun k k1 k2 => by simp only at k1; omega⟩ ?_
      rintro ⟨i, j⟩ t K ⟨rfl, k1, k2, k3, k4, k5⟩ hK
      simp only at k1 k2 k3 k4 k5
      simp only [List.headD_cons, List.tail_cons, lss_i]
      by_cases hij : i < j
      · simp only [hij, decide_true, add_i (show i + j < 9223372036854775808 by omega), u64_i (show i + j < 9223372036854775808 by omega), shr_i, i64_i (show (i + j) / 2 < 9223372036854775808 by omega)]
        obtain ⟨c, hcd⟩ : ∃ c, c = (i + j) / 2 := ⟨_, rfl⟩
        have hci : i ≤ c := by omega
        have hcj : c < j := by omega
        rw [← hcd]
        have p1 := hpm c (by omega)
        have p2 := hpb c (by omega)
        simp only [sub_i (show c ≤ mid + m - 1 by omega) (show mid + m - 1 < 9223372036854775808 by omega), lay_idx (show c < N by omega), lay_idx (show mid + m - 1 - c < N by omega), ld c (by omega), ld (mid + m - 1 - c) (by omega)]
        refine hc M _ _ _ fun n hn => ?_
        simp only [lss0, vUn]
        by_cases hn0 : n < 0
        · simp only [hn0, decide_true, Bool.not_true]
          have hl0 := hn.1 hn0
          refine hK (i, c) _ _ rfl ⟨rfl, k1, hci, by show c ≤ hi; omega, k4, fun k g1 g2 => ?_⟩ (by show c - i < j - i; omega)
          simp only at g1
          have p3 := hpm k g2
          cases e : lt (M.getD (mid + m - 1 - k) z) (M.getD k z) with
          | true => rfl
          | false =>
            have := hO.le3 (t1.le hO (i := c) (j := k) (by omega) (by omega) (by omega)) e (t2.le hO (i := mid + m - 1 - k) (j := mid + m - 1 - c) p3 (by omega) (by omega))
            rw [hl0] at this; cases this
        · simp only [hn0, decide_false, Bool.not_false, add_i (show c + 1 < 9223372036854775808 by omega)]
          have hl0 : lt (M.getD (mid + m - 1 - c) z) (M.getD c z) = false := by
            cases e : lt (M.getD (mid + m - 1 - c) z) (M.getD c z) with
            | false => rfl
            | true => exact absurd (hn.2 e) hn0
          refine hK (c + 1, j) _ _ rfl ⟨rfl, by show lo ≤ c + 1; omega, by show c + 1 ≤ j; omega, k3, fun k g1 g2 => ?_, k5⟩ (by show j - (c + 1) < j - i; omega)
          simp only at g2
          have p4 := hpb k g1
          exact hO.le3 (t1.le hO (i := k) (j := c) (by omega) (by omega) (by omega)) hl0 (t2.le hO (i := mid + m - 1 - c) (j := mid + m - 1 - k) (by omega) (by omega) p4)
      · simp only [hij, decide_false]
        obtain rfl : i = j := by omega
        have hcut : Cut lt (fun k => M.getD k z) a m b mid i := ⟨by omega, by omega, by omega, by omega, fun c c1 c2 c3 => by
            have := k4 c (by omega) c3
            rwa [show mid + m - 1 - c = m + mid - 1 - c by omega] at this, fun c c1 c2 c3 => by
            have := k5 c c1 (by omega)
            rwa [show mid + m - 1 - c = m + mid - 1 - c by omega] at this⟩
        have hcr := cut_cross hO t1 t2 hcut (by omega) (by omega) (by omega) (by omega)
        have r1 := rot_so1 (b := b) (mid := mid) t1 hcut.hm
        have r2 := rot_so2 (a := a) t2 hcut.hm hcut.hd hcut.e1
        have r3 := rot_so3 (b := b) t1 hcut.lo hcut.hm hcut.hd
        have r4 := rot_so4 (a := a) t2 hcut.hm hcut.hd
        have q1 := hcut.lo
        have q2 := hcut.hm
        have q3 := hcut.hd
        have q4 := hcut.e1
        obtain ⟨e, hed⟩ : ∃ e, e = m + mid - i := ⟨_, rfl⟩
        rw [← hed] at hcr r1 r2 r3 r4
        simp only [sub_i (show i ≤ mid + m by omega) (show mid + m < 9223372036854775808 by omega)]
        rw [show mid + m - i = e by omega]
        refine Join.of (fun xs t => ∃ M1, t = Lay enc rest s q M1 ∧ Kept z M M1 a b ∧ ∀ x, M1.getD x z = rotF (fun k => M.getD k z) i m e x) ?_ ?_
        rotate_left
        · intro K1 hK1
          refine Join.of (fun xs t => t = Lay enc rest s q M ∧ xs = [.lit (.bool (decide (i < m ∧ m < e)))]) ?_ ?_
          rotate_left
          · intro K2 hK2
            simp only [lss_i]
            by_cases g1 : i < m
            · simp only [g1, decide_true]
              refine hK2 _ _ ⟨rfl, by simp [g1]⟩
            · simp only [g1, decide_false]
              refine hK2 _ _ ⟨rfl, by simp [g1]⟩
          rintro _ t ⟨rfl, rfl⟩
          simp only [List.headD_cons]
          by_cases g : i < m ∧ m < e
          · simp only [g, and_self, decide_true]
            refine hr M i m e _ hN g.1 g.2 (by omega) fun M' g1 g2 => ?_
            exact hK1 _ _ ⟨M', rfl, g1.wide (by omega) (by omega), g2⟩
          · simp only [g, decide_false]
            refine hK1 _ _ ⟨M, rfl, Kept.refl _ _ _, fun x => ?_⟩
            by_cases g1 : i < m
            · obtain rfl : e = m := by omega
              rw [rot_idR]
            · obtain rfl : i = m := by omega
              rw [rot_idL]
        rintro _ t ⟨M1, rfl, kp1, hM1⟩
        have hlen1 := kp1.len
        have hf1 : (fun k => M1.getD k z) = rotF (fun k => M.getD k z) i m e := funext hM1
        rw [← hf1] at hcr r1 r2 r3 r4
        refine Join.of (fun xs t => ∃ M2, t = Lay enc rest s q M2 ∧ Kept z M1 M2 a mid ∧ SO z lt M2 a mid) ?_ ?_
        rotate_left
        · intro K1 hK1
          refine Join.of (fun xs t => t = Lay enc rest s q M1 ∧ xs = [.lit (.bool (decide (a < i ∧ i < mid)))]) ?_ ?_
          rotate_left
          · intro K2 hK2
            try simp only [lss_i]
            by_cases g1 : a < i
            · simp only [g1, decide_true]
              refine hK2 _ _ ⟨rfl, by simp [g1]⟩
            · simp only [g1, decide_false]
              refine hK2 _ _ ⟨rfl, by simp [g1]⟩
          rintro _ t ⟨rfl, rfl⟩
          simp only [List.headD_cons]
          by_cases g : a < i ∧ i < mid
          · simp only [g, and_self, decide_true]
            refine ih M1 a i mid _ (by omega) (by omega) g.1 g.2 (by omega) r1 r2 fun M' g1 g2 => ?_
            exact hK1 _ _ ⟨M', rfl, g1, g2⟩
          · simp only [g, decide_false]
            refine hK1 _ _ ⟨M1, rfl, Kept.refl _ _ _, ?_⟩
            by_cases g1 : a < i
            · obtain rfl : i = mid := by omega
              exact r1
            · obtain rfl : i = a := by omega
              exact r2
        rintro _ t ⟨M2, rfl, kp2, hs2⟩
        have hlen2 := kp2.len
        have hcr2 := hcr.left kp2
        have r3' : SO z lt M2 mid e := SO.of_out (M := M1) r3 kp2 (.inr (Nat.le_refl _))
        have r4' : SO z lt M2 e b := SO.of_out (M := M1) r4 kp2 (.inr (by omega))
        have hfin : ∀ M3, Kept z M2 M3 mid b → SO z lt M3 mid b → Q (.tup []) (Lay enc rest s q M3) := fun M3 kp3 hs3 => by
          refine hQ M3 ((kp1.trans (kp2.wide (Nat.le_refl _) (by omega))).trans (kp3.wide (by omega) (Nat.le_refl _))) ?_
          exact so_join (m := mid) (SO.of_out hs2 kp3 (.inl (Nat.le_refl _))) hs3 (hcr2.right kp3)
        refine Join.of (fun xs t => t = Lay enc rest s q M2 ∧ xs = [.lit (.bool (decide (mid < e ∧ e < b)))]) ?_ ?_
        rotate_left
        · intro K2 hK2
          try simp only [lss_i]
          by_cases g1 : mid < e
          · simp only [g1, decide_true]
            refine hK2 _ _ ⟨rfl, by simp [g1]⟩
          · simp only [g1, decide_false]
            refine hK2 _ _ ⟨rfl, by simp [g1]⟩
        rintro _ t ⟨rfl, rfl⟩
        simp only [List.headD_cons]
        by_cases g : mid < e ∧ e < b
        · simp only [g, and_self, decide_true]
          exact ih M2 mid e b _ (by omega) (by omega) g.1 g.2 (by omega) r3' r4' hfin
        · simp only [g, decide_false]
          refine hfin M2 (Kept.refl _ _ _) ?_
          by_cases g1 : mid < e
          · obtain rfl : e = b := by omega
            exact r3'
          · obtain rfl : e = mid := by omega
            exact r4'
end
end Go.Proofs.Ytkcgokkgefgcjaa.H
end
section
namespace Go.Proofs.Ytkcgokkgefgcjaa.H
open Go.RowKit Go.MapKept
set_option linter.unusedVariables false
set_option linter.unusedSimpArgs false
section
variable {P : Program} {α : Type} {enc : α → List HV} {sz : Nat} {z : α} {rest : List HV} {s : HS} {q : Nat} {lt : α → α → Bool} {N : Nat} {f : Bool} {cmp : HV}
def InsOk (P : Program) (gi : Nat) (enc : α → List HV) (sz : Nat) (z : α) (lt : α → α → Bool) (rest : List HV) (s : HS) (q N : Nat) (f : Bool) (cmp : HV) : Prop :=
  ∀ (M : List α) (a b : Nat) (Q : HV → HS → Prop), M.length = N → a ≤ b → b ≤ N → (∀ M', Kept z M M' a b → SO z lt M' a b → Q (.tup []) (Lay enc rest s q M')) →
    HC P gi [.view q 0 sz N f, .lit (.int .i64 (a : Int)), .lit (.int .i64 (b : Int)), cmp] (Lay enc rest s q M) Q
def Blocks (z : α) (lt : α → α → Bool) (M : List α) (c n : Nat) : Prop := ∀ j, SO z lt M (j * c) (min (j * c + c) n)
theorem stb_ok {gi gs : Nat} (hi : InsOk P gi enc sz z lt rest s q N f cmp) (hs : ∀ d, SymOk P gs enc sz z lt rest s q N f cmp d) {M : List α} {Q : HV → HS → Prop} (hN : M.length = N) (hl : N < 1099511627776)
    (hQ : ∀ M', M'.Perm M → SO z lt M' 0 N → Q (.tup []) (Lay enc rest s q M')) :
    stbT P sz gi gs (.view q 0 sz N f) (.lit (.int .i64 (N : Int))) cmp (Lay enc rest s q M) Q := by
  unfold stbT
  rw [wlit0, show HV.lit (.int .i64 20) = .lit (.int .i64 ((20 : Nat) : Int)) from rfl, show HV.lit (.int .i64 2) = .lit (.int .i64 ((2 : Nat) : Int)) from rfl]
  refine HLoop.ghost (σ := Nat × List α) (fun g => [.lit (.int .i64 ((g.1 * 20 : Nat) : Int)), .lit (.int .i64 ((g.1 * 20 + 20 : Nat) : Int))]) (fun g t => g.1 * 20 ≤ N ∧ Kept z M g.2 0 N ∧ (∀ j, j < g.1 → SO z lt g.2 (j * 20) (j * 20 + 20)) ∧ t = Lay enc rest s q g.2) (fun g => N - g.1 * 20) (0, M) rfl
    ⟨by show 0 * 20 ≤ N; omega, Kept.refl _ _ _, fun j hj => by simp only at hj; omega, rfl⟩ ?_
  rintro ⟨k, M1⟩ t K ⟨k1, k2, k3, rfl⟩ hK
  simp only at k1 k2 k3
  have hlen := k2.len
  simp only [List.headD_cons, List.tail_cons, leq_i, bindO]
  by_cases hb : k * 20 + 20 ≤ N
  · simp only [hb, decide_true, hcond]
    refine hi M1 (k * 20) (k * 20 + 20) _ (by omega) (by omega) hb fun M' e1 e2 => ?_
    rw [add_i (show k * 20 + 20 + 20 < 9223372036854775808 by omega)]
    refine hK (k + 1, M') _ _ (by show _ = [HV.lit (.int .i64 (((k + 1) * 20 : Nat) : Int)), HV.lit (.int .i64 (((k + 1) * 20 + 20 : Nat) : Int))]; rw [Nat.succ_mul]) ⟨by show (k + 1) * 20 ≤ N; omega, k2.trans (e1.wide (Nat.zero_le _) hb), fun j hj => ?_, rfl⟩ (by show N - (k + 1) * 20 < N - k * 20; omega)
    simp only at hj ⊢
    by_cases hjk : j = k
    · subst hjk; exact e2
    · exact SO.of_out (k3 j (by omega)) e1 (.inl (by omega))
  · simp only [hb, decide_false, hcond]
    refine hi M1 (k * 20) N _ (by omega) k1 (Nat.le_refl _) fun M' e1 e2 => ?_
    have hB : Blocks z lt M' 20 N := fun j => by
      by_cases hj : j < k
      · rw [Nat.min_eq_left (by omega)]
        exact SO.of_out (k3 j hj) e1 (.inl (by omega))
      · by_cases hjk : j = k
        · subst hjk
          rw [Nat.min_eq_right (by omega)]
          exact e2
        · intro a b g1 g2 g3
          omega
    have kp0 := k2.trans (e1.wide (Nat.zero_le _) (Nat.le_refl _))
    clear e1 e2 k2 k3 k1 hb
    refine HLoop.ghost (σ := Nat × List α) (fun g => [.lit (.int .i64 (g.1 : Int))]) (fun g t => 0 < g.1 ∧ (g.1 = 20 ∨ g.1 < 2 * N) ∧ Kept z M g.2 0 N ∧ Blocks z lt g.2 g.1 N ∧ t = Lay enc rest s q g.2) (fun g => N - g.1) (20, M') rfl ⟨by show 0 < 20; omega, .inl rfl, kp0, hB, rfl⟩ ?_
    rintro ⟨c, M2⟩ t K2 ⟨c1, c2, c3, c4, rfl⟩ hK2
    simp only at c1 c2 c3 c4
    simp only [List.headD_cons, List.tail_cons, lss_i]
    by_cases hc : c < N
    · simp only [hc, decide_true, mul_i (show 2 * c < 9223372036854775808 by omega)]
      obtain ⟨d, hd⟩ : ∃ d, d = 2 * c := ⟨_, rfl⟩
      rw [← hd]
      refine HLoop.ghost (σ := Nat × List α) (fun g => [.lit (.int .i64 ((g.1 * d : Nat) : Int)), .lit (.int .i64 ((g.1 * d + d : Nat) : Int))]) (fun g t => g.1 * d ≤ N ∧ Kept z M g.2 0 N ∧ (∀ j, j < g.1 → SO z lt g.2 (j * d) (j * d + d)) ∧ (∀ j, 2 * g.1 ≤ j → SO z lt g.2 (j * c) (min (j * c + c) N)) ∧ t = Lay enc rest s q g.2) (fun g => N - g.1 * d) (0, M2)
        (by show _ = [HV.lit (.int .i64 ((0 * d : Nat) : Int)), HV.lit (.int .i64 ((0 * d + d : Nat) : Int))]; rw [Nat.zero_mul, Nat.zero_add])
        ⟨by show 0 * d ≤ N; rw [Nat.zero_mul]; omega, c3, fun j hj => by simp only at hj; omega, fun j _ => c4 j, rfl⟩ ?_
      rintro ⟨k, M3⟩ t K3 ⟨k1, k2, k3, k4, rfl⟩ hK3
      simp only at k1 k2 k3 k4
      have hlen3 := k2.len
      have e1 : 2 * k * c = k * d := by rw [hd, Nat.mul_comm 2 k, Nat.mul_assoc]
      have e2 : (2 * k + 1) * c = k * d + c := by rw [Nat.succ_mul, e1]
      have r1 := k4 (2 * k) (Nat.le_refl _)
      have r2 := k4 (2 * k + 1) (by omega)
      rw [e1] at r1
      rw [e2] at r2
      have hlow : ∀ j, j < k → j * d + d ≤ k * d := fun j hj => by
        have := Nat.mul_le_mul_right d (show j + 1 ≤ k from hj)
        rwa [Nat.succ_mul] at this
      have hup : ∀ j, 2 * (k + 1) ≤ j → k * d + d ≤ j * c := fun j hj => by
        have := Nat.mul_le_mul_right c hj
        rw [show 2 * (k + 1) * c = k * d + d by rw [Nat.mul_add, Nat.add_mul, e1]; omega] at this
        exact this
      have hkd2 : (k + 1) * d = k * d + d := Nat.succ_mul k d
      generalize hA : k * d = a at *
      simp only [List.headD_cons, List.tail_cons, leq_i]
      by_cases hb : a + d ≤ N
      · simp only [hb, decide_true, add_i (show a + c < 9223372036854775808 by omega)]
        rw [Nat.min_eq_left (by omega)] at r1 r2
        refine hs _ M3 a (a + c) (a + d) _ (Nat.lt_succ_self _) (by omega) (by omega) (by omega) hb r1 (by rw [show a + d = a + c + c by omega]; exact r2) fun M4 e3 e4 => ?_
        rw [add_i (show a + d + d < 9223372036854775808 by omega)]
        refine hK3 (k + 1, M4) _ _ (by show _ = [HV.lit (.int .i64 (((k + 1) * d : Nat) : Int)), HV.lit (.int .i64 (((k + 1) * d + d : Nat) : Int))]; rw [hkd2]) ⟨by show (k + 1) * d ≤ N; omega, k2.trans (e3.wide (Nat.zero_le _) hb), fun j hj => ?_, fun j hj => ?_, rfl⟩ (by show N - (k + 1) * d < N - a; omega)
        · simp only at hj ⊢
          by_cases hjk : j = k
          · subst hjk; rw [hA]; exact e4
          · exact SO.of_out (k3 j (by omega)) e3 (.inl (hlow j (by omega)))
        · simp only at hj ⊢
          exact SO.of_out (k4 j (by omega)) e3 (.inr (hup j hj))
      · simp only [hb, decide_false]
        have hfin : ∀ M4, Kept z M3 M4 a N → SO z lt M4 a N → K2 [HV.lit (.int .i64 ((2 * c : Nat) : Int))] (Lay enc rest s q M4) := fun M4 e3 e4 => by
          refine hK2 (2 * c, M4) _ _ rfl ⟨by show 0 < 2 * c; omega, .inr (by show 2 * c < 2 * N; omega), k2.trans (e3.wide (Nat.zero_le _) (Nat.le_refl _)), fun j => ?_, rfl⟩ (by show N - 2 * c < N - c; omega)
          rw [← hd]
          show SO z lt M4 (j * d) (min (j * d + d) N)
          by_cases hj : j < k
          · have := hlow j hj
            rw [Nat.min_eq_left (by omega)]
            exact SO.of_out (k3 j hj) e3 (.inl this)
          · by_cases hjk : j = k
            · subst hjk
              rw [hA, Nat.min_eq_right (by omega)]
              exact e4
            · have := Nat.mul_le_mul_right d (show k + 1 ≤ j by omega)
              intro x y g1 g2 g3
              omega
        refine Join.of (fun xs t => ∃ M4, t = Lay enc rest s q M4 ∧ Kept z M3 M4 a N ∧ SO z lt M4 a N) ?_ ?_
        · rintro _ t ⟨M4, rfl, e3, e4⟩
          rw [mul_i (show c * 2 < 9223372036854775808 by omega), Nat.mul_comm c 2]
          exact hfin M4 e3 e4
        · intro K4 hK4
          simp only [add_i (show a + c < 9223372036854775808 by omega), lss_i]
          by_cases hm : a + c < N
          · simp only [hm, decide_true]
            rw [Nat.min_eq_left (by omega)] at r1
            rw [Nat.min_eq_right (by omega)] at r2
            exact hs _ M3 a (a + c) N _ (Nat.lt_succ_self _) (by omega) (by omega) hm (Nat.le_refl _) r1 r2 fun M4 e3 e4 => hK4 _ _ ⟨M4, rfl, e3, e4⟩
          · simp only [hm, decide_false]
            rw [Nat.min_eq_right (by omega)] at r1
            exact hK4 _ _ ⟨M3, rfl, Kept.refl _ _ _, r1⟩
    · simp only [hc, decide_false]
      have := c4 0
      rw [Nat.zero_mul, Nat.min_eq_right (by omega)] at this
      exact hQ M2 c3.perm this
end
end Go.Proofs.Ytkcgokkgefgcjaa.H
end
section
namespace Go.Proofs.Ytkcgokkgefgcjaa.AS
open Go.Proofs.Ytkcgokkgefgcjaa.H Go.Proofs.Ytkcgokkgefgcjaa.A0
set_option linter.unusedVariables false
set_option linter.unusedSimpArgs false
set_option maxRecDepth 100000
abbrev By := List UInt8
abbrev bl_ (a b : By) : Bool := Op.bytesLess a b
theorem bl_irrefl : ∀ a : By, bl_ a a = false
  | [] => rfl
  | x :: a => by simp only [bl_, Op.bytesLess]; have := bl_irrefl a; simp [bl_] at this; simp [this]
theorem bl_tri : ∀ a b : By, bl_ a b = false → a = b ∨ bl_ b a = true
  | [], [], _ => .inl rfl
  | [], y :: b, h => by simp [bl_, Op.bytesLess] at h
  | x :: a, [], _ => .inr rfl
  | x :: a, y :: b, h => by
    simp only [bl_, Op.bytesLess, Bool.or_eq_false_iff, Bool.and_eq_false_iff, decide_eq_false_iff_not] at h
    obtain ⟨h1, h2⟩ := h
    by_cases e : x = y
    · subst e
      have h3 : bl_ a b = false := by
        rcases h2 with h2 | h2
        · simp at h2
        · exact h2
      rcases bl_tri a b h3 with rfl | h4
      · exact .inl rfl
      · refine .inr ?_
        simp only [bl_, Op.bytesLess, Bool.or_eq_true, Bool.and_eq_true]
        exact .inr ⟨by simp, h4⟩
    · refine .inr ?_
      simp only [bl_, Op.bytesLess, Bool.or_eq_true, Bool.and_eq_true, decide_eq_true_eq]
      left
      have h5 : ¬ x < y := by simpa using h1
      rcases UInt8.lt_or_lt_of_ne e with h6 | h6
      · exact absurd h6 h5
      · exact h6
theorem bl_trans : ∀ a b c : By, bl_ a b = true → bl_ b c = true → bl_ a c = true
  | _, b, [], _, h => by cases b <;> simp [bl_, Op.bytesLess] at h
  | _, [], z :: c, h, _ => by rename_i a; cases a <;> simp [bl_, Op.bytesLess] at h
  | [], y :: b, z :: c, _, _ => rfl
  | x :: a, y :: b, z :: c, h, k => by
    simp only [bl_, Op.bytesLess, Bool.or_eq_true, Bool.and_eq_true, decide_eq_true_eq, beq_iff_eq] at h k ⊢
    rcases h with h | ⟨rfl, h⟩ <;> rcases k with k | ⟨rfl, k⟩
    · exact .inl (UInt8.lt_trans h k)
    · exact .inl h
    · exact .inl k
    · exact .inr ⟨rfl, bl_trans a b c h k⟩
theorem bl_asymm {a b : By} (h : bl_ a b = true) : bl_ b a = false := by
  cases e : bl_ b a with
  | false => rfl
  | true => have := bl_trans _ _ _ h e; rw [bl_irrefl] at this; cases this
/-- An order by names. -/
theorem ordr_name {α : Type} (nm : α → By) : Ordr fun x y => bl_ (nm x) (nm y) := ⟨fun x y h => bl_asymm h, fun x y w h1 h2 => by
  cases e : bl_ (nm w) (nm x) with
  | false => rfl
  | true =>
    rcases bl_tri _ _ h2 with h3 | h3
    · rw [h3, h1] at e; cases e
    · have := bl_trans _ _ _ h3 e
      rw [h1] at this; cases this⟩
theorem toList_go (s : ByteArray) : ∀ (k i : Nat) (r : List UInt8), s.size - i = k → i ≤ s.size → ByteArray.toList.loop s i r = r.reverse ++ s.data.toList.drop i := by
  intro k
  induction k with
  | zero =>
    intro i r h hi
    have : i = s.size := by omega
    unfold ByteArray.toList.loop
    rw [if_neg (by omega)]
    have e : s.data.toList.drop i = [] := List.drop_of_length_le (by rw [this]; show s.data.toList.length ≤ s.data.size; simp)
    rw [e, List.append_nil]
  | succ k ih =>
    intro i r h hi
    have hlt : i < s.size := by omega
    unfold ByteArray.toList.loop
    rw [if_pos hlt, ih (i + 1) _ (by omega) (by omega)]
    have hlt2 : i < s.data.toList.length := by
      have : s.data.toList.length = s.data.size := by simp
      rw [this]; exact hlt
    rw [List.drop_eq_getElem_cons hlt2, List.reverse_cons, List.append_assoc]
    congr 1
    show [s.data[i]!] ++ _ = _
    rw [getElem!_pos s.data i (by simpa using hlt2)]
    rfl
theorem toList_data (s : ByteArray) : s.toList = s.data.toList := by
  unfold ByteArray.toList
  rw [toList_go s s.size 0 [] (by omega) (by omega)]
  simp
theorem toL (a : By) : (⟨a.toArray⟩ : ByteArray).toList = a := by rw [toList_data]
theorem str_lt (a b : By) : Op.bytesLess (⟨a.toArray⟩ : ByteArray).toList (⟨b.toArray⟩ : ByteArray).toList = bl_ a b := by rw [toL, toL]
def strV (k : By) : HV := .lit (.string ⟨k.toArray⟩)
def strC (k : By) : List HV := [strV k]
structure Mem where
  id : By
  tp : Option (List By)
structure Top where
  name : By
  parts : Int
def memC (m : Mem) : List HV := [strV m.id, rowV strC 1 m.tp]
def topC (t : Top) : List HV := [strV t.name, .lit (.int .i64 t.parts)]
theorem memC_len (m : Mem) : (memC m).length = 2 := rfl
theorem topC_len (m : Top) : (topC m).length = 2 := rfl
theorem memC_one (m : Mem) : ∀ y ∈ memC m, hone y = true := by
  intro y hy
  simp only [memC, List.mem_cons, List.not_mem_nil, or_false] at hy
  rcases hy with rfl | rfl
  · rfl
  · cases m.tp <;> rfl
theorem topC_one (m : Top) : ∀ y ∈ topC m, hone y = true := by
  intro y hy
  simp only [topC, List.mem_cons, List.not_mem_nil, or_false] at hy
  rcases hy with rfl | rfl <;> rfl
def m0 : Mem := ⟨[], none⟩
def t0 : Top := ⟨[], 0⟩
abbrev ltM (a b : Mem) : Bool := bl_ a.id b.id
abbrev ltT (a b : Top) : Bool := bl_ a.name b.name
section
variable {α : Type} {enc : α → List HV} {z : α} {rest : List HV} {s : HS} {q : Nat} {lt : α → α → Bool} {N : Nat} {f : Bool} {cmp : HV}
theorem sym_all {P : Program} {gs : Nat} (step : ∀ (M : List α) (a m b : Nat) (Q : HV → HS → Prop), SymOk P gs enc 2 z lt rest s q N f cmp (b - a) → M.length = N → a < m → m < b → b ≤ N → SO z lt M a m → SO z lt M m b → (∀ M', Kept z M M' a b → SO z lt M' a b → Q (.tup []) (Lay enc rest s q M')) →
    HC P gs [.view q 0 2 N f, .lit (.int .i64 (a : Int)), .lit (.int .i64 (m : Int)), .lit (.int .i64 (b : Int)), cmp] (Lay enc rest s q M) Q) : ∀ d, SymOk P gs enc 2 z lt rest s q N f cmp d
  | 0 => fun M a m b Q h => by omega
  | d + 1 => fun M a m b Q h h1 h2 h3 h4 h5 h6 h7 => step M a m b Q (fun M' a' m' b' Q' k => sym_all step d M' a' m' b' Q' (by omega)) h1 h2 h3 h4 h5 h6 h7
theorem sort53 (z : α) (hO : Ordr lt) (h : ∀ x, (enc x).length = 2) (ho : ∀ x, ∀ y ∈ enc x, hone y = true) (hc : CmpOk Try.prog cmp enc lt rest s q) {M : List α} {Q : HV → HS → Prop} (hl : M.length < 1099511627776)
    (hQ : ∀ M', M'.Perm M → M'.Pairwise (fun x y => lt y x = false) → Q (.tup []) (Lay enc rest s q M')) :
    HC Try.prog 53 [.view q 0 2 M.length f, cmp] (Lay enc rest s q M) Q := by
  obtain ⟨N, hN⟩ : ∃ N, M.length = N := ⟨_, rfl⟩
  rw [hN] at hl ⊢
  have hw : SwrOk Try.prog 64 enc 2 z rest s q N f cmp := fun M p r n Q h1 h2 h3 h4 => HC64 (swr_ok (P := Try.prog) (cmp := cmp) h ho h1 hl h2 h3 h4)
  have hr : RotOk Try.prog 63 enc 2 z rest s q N f cmp := fun M a m b Q h1 h2 h3 h4 h5 => HC63 (rot_ok (u3 := 3) hw h1 hl h2 h3 h4 h5)
  have hi : InsOk Try.prog 60 enc 2 z lt rest s q N f cmp := fun M a b Q h1 h2 h3 h4 => HC60 (by rw [← h1]; exact ins_ok (z := z) hO h ho hc (by omega) (by omega) h2 h4)
  have hs : ∀ d, SymOk Try.prog 61 enc 2 z lt rest s q N f cmp d := sym_all fun M a m b Q ih h1 h2 h3 h4 h5 h6 h7 => HC61 (sym_step (u3 := 3) hO h ho hc hr ih h1 hl h2 h3 h4 h5 h6 h7)
  refine HC53 ?_
  show HC Try.prog 58 [.view q 0 2 N f, .lit (.int .i64 (N : Int)), cmp] (Lay enc rest s q M) _
  refine HC58 (stb_ok hi hs hN hl fun M' k1 k2 => hQ M' k1 ?_)
  have : M'.length = N := by rw [k1.length_eq, hN]
  rw [← this] at k2
  exact k2.pairwise
theorem sort38 (z : α) (hO : Ordr lt) (h : ∀ x, (enc x).length = 2) (ho : ∀ x, ∀ y ∈ enc x, hone y = true) (hc : CmpOk Try.prog cmp enc lt rest s q) {M : List α} {Q : HV → HS → Prop} (hl : M.length < 1099511627776)
    (hQ : ∀ M', M'.Perm M → M'.Pairwise (fun x y => lt y x = false) → Q (.tup []) (Lay enc rest s q M')) :
    HC Try.prog 38 [.view q 0 2 M.length f, cmp] (Lay enc rest s q M) Q := by
  obtain ⟨N, hN⟩ : ∃ N, M.length = N := ⟨_, rfl⟩
  rw [hN] at hl ⊢
  have hw : SwrOk Try.prog 62 enc 2 z rest s q N f cmp := fun M p r n Q h1 h2 h3 h4 => HC62 (swr_ok (P := Try.prog) (cmp := cmp) h ho h1 hl h2 h3 h4)
  have hr : RotOk Try.prog 59 enc 2 z rest s q N f cmp := fun M a m b Q h1 h2 h3 h4 h5 => HC59 (rot_ok (u3 := 3) hw h1 hl h2 h3 h4 h5)
  have hi : InsOk Try.prog 56 enc 2 z lt rest s q N f cmp := fun M a b Q h1 h2 h3 h4 => HC56 (by rw [← h1]; exact ins_ok (z := z) hO h ho hc (by omega) (by omega) h2 h4)
  have hs : ∀ d, SymOk Try.prog 57 enc 2 z lt rest s q N f cmp d := sym_all fun M a m b Q ih h1 h2 h3 h4 h5 h6 h7 => HC57 (sym_step (u3 := 3) hO h ho hc hr ih h1 hl h2 h3 h4 h5 h6 h7)
  refine HC38 ?_
  show HC Try.prog 49 [.view q 0 2 N f, .lit (.int .i64 (N : Int)), cmp] (Lay enc rest s q M) _
  refine HC49 (stb_ok hi hs hN hl fun M' k1 k2 => hQ M' k1 ?_)
  have : M'.length = N := by rw [k1.length_eq, hN]
  rw [← this] at k2
  exact k2.pairwise
end
theorem cmp40 (a b : By) (s : HS) : HC Try.prog 40 [strV a, strV b] s (fun v s' => s' = s ∧ ∃ n : Int, v = .lit (.int .i64 n) ∧ (n < 0 ↔ bl_ a b = true)) := by
  have hn : ∀ (k : By) (t : HS), HC Try.prog 50 [strV k] t (fun v t' => v = .lit (.bool false) ∧ t' = t) := fun k t => by
    refine HC50 ?_
    simp [c50, strV, vCmp, vBin, bindO]
  refine HC40 ?_
  unfold c40
  refine (hn a s).mono ?_
  rintro v t ⟨rfl, rfl⟩
  refine (hn b t).mono ?_
  rintro v t1 ⟨rfl, rfl⟩
  simp only [hcond, strV, vBin, bindO, str_lt]
  cases hab : bl_ a b with
  | true => exact ⟨trivial, -1, rfl, by simp⟩
  | false =>
    simp only [Bool.false_or, toL]
    cases hE : (a == b) with
    | false => exact ⟨trivial, 1, rfl, by simp⟩
    | true => exact ⟨trivial, 0, rfl, by simp⟩
end Go.Proofs.Ytkcgokkgefgcjaa.AS
end
section
namespace Go.Proofs.Ytkcgokkgefgcjaa.AS
open Go.Proofs.Ytkcgokkgefgcjaa.H Go.Proofs.Ytkcgokkgefgcjaa.A0
set_option linter.unusedVariables false
set_option linter.unusedSimpArgs false
set_option maxRecDepth 100000
/-- A row: nil, or an object. -/
def RowV (s : HS) (sz : Nat) (A : HV) (n : Nat) (cs : List HV) : Prop := (A = nilV ∧ cs = [] ∧ n = 0) ∨ ∃ q f, A = .view q 0 sz n f ∧ s q = some (.cells cs) ∧ cs.length = n * sz
theorem RowV.le {s t : HS} {sz : Nat} {A : HV} {n : Nat} {cs : List HV} (h : RowV s sz A n cs) (hle : HS.le s t) : RowV t sz A n cs := by
  rcases h with h | ⟨q, f, h1, h2, h3⟩
  · exact .inl h
  · exact .inr ⟨q, f, h1, hle _ _ h2, h3⟩
theorem RowV.lc {s : HS} {sz : Nat} {A : HV} {n : Nat} {cs : List HV} (h : RowV s sz A n cs) : lcells s sz A = some cs := by
  rcases h with ⟨rfl, rfl, rfl⟩ | ⟨q, f, rfl, h2, h3⟩
  · rfl
  · simp [lcells, h2, h3, List.take_of_length_le]
theorem RowV.llen {s : HS} {sz : Nat} {A : HV} {n : Nat} {cs : List HV} (h : RowV s sz A n cs) : llen A = n := by
  rcases h with ⟨rfl, rfl, rfl⟩ | ⟨q, f, rfl, h2, h3⟩ <;> rfl
theorem RowV.cl {s : HS} {sz : Nat} {A : HV} {n : Nat} {cs : List HV} (h : RowV s sz A n cs) : cs.length = n * sz := by
  rcases h with ⟨rfl, rfl, rfl⟩ | ⟨q, f, rfl, h2, h3⟩
  · simp
  · exact h3
theorem RowV.len {s : HS} {sz : Nat} {A : HV} {n : Nat} {cs : List HV} (h : RowV s sz A n cs) (e : Nat) (t : HS) : vLenT (some (.slice e)) t A = some (.lit (.int .i64 n)) := by
  rcases h with ⟨rfl, rfl, rfl⟩ | ⟨q, f, rfl, h2, h3⟩ <;> rfl
theorem acc0_row {b t : HS} {sz : Nat} {A : HV} {n : Nat} {cs : List HV} (h : Acc0 b t sz A n cs) : RowV t sz A n cs := by
  rcases h with (h | ⟨q, f, h1, rfl, h3, h4, h5⟩) | ⟨rfl, rfl, q, h1, rfl, h3⟩
  · obtain ⟨h1, h2, h3⟩ := h; exact .inl ⟨h1, h2, h3⟩
  · exact .inr ⟨q, f, rfl, h3, h4⟩
  · exact .inr ⟨q, true, rfl, h3, by simp⟩
theorem RowV.at_ {α : Type} {enc : α → List HV} {sz : Nat} (he : ∀ x, (enc x).length = sz) (z : α) {s : HS} {A : HV} {l : List α} (h : RowV s sz A l.length (rows enc l)) {i : Nat} (hi : i < l.length) :
    ∃ q, vIdx sz A (.lit (.int .i64 (i : Int))) = some (.ptr q (i * sz)) ∧ ∀ t, HS.le s t → vLoad t (.ptr q (i * sz)) sz true = some (.agg (enc (l.getD i z))) ∧ ∀ j, j < sz → ∀ m, vLoad t (.ptr q (i * sz + j)) m false = (enc (l.getD i z))[j]? := by
  rcases h with ⟨rfl, h0, h1⟩ | ⟨q, f, rfl, h3, h4⟩
  · omega
  · refine ⟨q, by rw [idx_view .i64 hi, Nat.zero_add], fun t ht => ?_⟩
    have h5 : t q = some (.cells (rows enc l ++ [])) := by rw [List.append_nil]; exact ht _ _ h3
    exact ⟨load_rows he z h5 hi, fun j hj m => load_rows1 he z h5 hi hj⟩
theorem hbox_intro {s : HS} {v : HV} {cs : List HV} {K : HV → HS → Prop} (hc : hcells v = some cs) (h : ∀ id, s id = none → K (.ptr id 0) (s.set id (.cells cs))) : hBox s v K := by
  unfold hBox
  rw [hc]
  exact h
theorem name44 (m : Mem) (u : HS) : HC Try.prog 44 [.agg (memC m)] u (fun v u' => u' = u ∧ v = strV m.id) := by
  refine HC.weaken (HC44 ?_)
  simp only [c44, hBox, hcells, bindO, vField]
  intro id hid
  simp only [Nat.zero_add]
  rw [load_cell 0 1 (set_at u id _)]
  exact ⟨u, le_set_new _ (le_refl' u) hid, rfl, rfl⟩
theorem plain44 : plainFn Try.prog 44 = true := by unfold plainFn; rw [Try.func44]; rfl
theorem cmp54 {s : HS} {rest : List HV} {q nb : Nat} (hnb : s nb = some (.cells [.func (.func 44) []])) (hq : nb ≠ q) : CmpOk Try.prog (.func (.func 54) [.ptr nb 0]) memC ltM rest s q := by
  intro M x y K hK
  have hp : plainFn Try.prog 54 = true := by unfold plainFn; rw [Try.func54]; rfl
  have hp4 := plain44
  have hL : Lay memC rest s q M nb = some (.cells [.func (.func 44) []]) := by unfold Lay; rw [set_ne _ _ hq]; exact hnb
  generalize Lay memC rest s q M = t at *
  simp only [hcall, hite_eq, hp, if_true, List.cons_append, List.nil_append]
  refine HC.weaken (HC54 ?_)
  simp only [c54, hBox, hcells]
  intro i1 h1
  have n1 := ne_new hL h1
  have e1 := set_at t i1 (.cells (memC x))
  have eL : (t.set i1 (.cells (memC x))) nb = some (.cells [.func (.func 44) []]) := by rw [set_ne _ _ n1]; exact hL
  have hle := le_set_new (.cells (memC x)) (le_refl' t) h1
  generalize t.set i1 (.cells (memC x)) = t1 at *
  intro i2 h2
  have e2 := set_at t1 i2 (.cells (memC y))
  have e3 : (t1.set i2 (.cells (memC y))) i1 = some (.cells (memC x)) := by rw [set_ne _ _ (ne_new e1 h2)]; exact e1
  have eL2 : (t1.set i2 (.cells (memC y))) nb = some (.cells [.func (.func 44) []]) := by rw [set_ne _ _ (ne_new eL h2)]; exact eL
  have hle2 := le_set_new (.cells (memC y)) hle h2
  generalize t1.set i2 (.cells (memC y)) = t2 at *
  have l2 := load_all (memC_len y) e2
  have lL : vLoad t2 (.ptr nb 0) 1 false = some (.func (.func 44) []) := load_cell 0 1 eL2
  rw [lL, load_all (memC_len x) e3, l2]
  simp only [bindO, hcall, hite_eq, hp4, if_true, List.append_nil]
  refine (name44 x t2).mono ?_
  rintro v t3 ⟨rfl, rfl⟩
  refine ⟨l2, lL, (name44 y t3).mono ?_⟩
  rintro v t4 ⟨rfl, rfl⟩
  refine (cmp40 x.id y.id t4).mono ?_
  rintro v t5 ⟨rfl, n, rfl, hn⟩
  exact ⟨t, hle2, hK n hn⟩
theorem clone52 {s : HS} {A : HV} {n : Nat} {cs : List HV} (h : RowV s 2 A n cs) (hn : n ≤ 1000000000) : HC Try.prog 52 [A] s (fun v t => Acc0 s t 2 v n cs ∧ HS.le s t) := by
  refine HC52 ?_
  unfold c52
  have hcl := h.cl
  rcases h with ⟨rfl, rfl, rfl⟩ | ⟨q, f, rfl, h2, h3⟩
  · exact ⟨.inl (Acc.nil _ _ _), le_refl' s⟩
  · rw [show vCmp (Try.prog.underlying 28) .eql (.view q 0 2 n f) (.lit (.slice none 0 0)) = some (.lit (.bool false)) from rfl]
    simp only [bindO, hcond]
    refine hBS0 fun id hid => ?_
    have hr : RowV s 2 (.view q 0 2 n f) n cs := .inr ⟨q, f, rfl, h2, h3⟩
    exact app_empty (b := s) (le_set_new _ (le_refl' s) hid) hid (set_at _ _ _) (hr.le (le_set_new _ (le_refl' s) hid)).lc hr.llen hcl ⟨by omega, by omega⟩ fun A' t' k1 k2 => ⟨k1, k2⟩
theorem insNil60 (cmp : HV) (s : HS) : HC Try.prog 60 [nilV, .lit (.int .i64 0), .lit (.int .i64 0), cmp] s (fun v t => t = s) := by
  refine HC60 ?_
  unfold c60
  rw [show vBin .add (.lit (.int .i64 0)) (.lit (.int .i64 1)) = some (.lit (.int .i64 ((0 + 1 : Nat) : Int))) from add_i (a := 0) (b := 1) (by omega)]
  simp only [bindO]
  refine HLoop.ghost (σ := Unit) (fun _ => [.lit (.int .i64 ((0 + 1 : Nat) : Int))]) (fun _ t => t = s) (fun _ => 0) () rfl rfl ?_
  rintro _ t K rfl hK
  rfl
theorem sortNil53 (cmp : HV) (s : HS) : HC Try.prog 53 [nilV, cmp] s (fun v t => t = s) := by
  refine HC53 ?_
  show HC Try.prog 58 [nilV, .lit (.int .i64 0), cmp] s _
  refine HC58 ?_
  refine HLoop.ghost (σ := Unit) (fun _ => [.lit (.int .i64 0), .lit (.int .i64 20)]) (fun _ t => t = s) (fun _ => 0) () rfl rfl ?_
  rintro _ t K rfl hK
  show HC Try.prog 60 [nilV, .lit (.int .i64 0), .lit (.int .i64 0), cmp] t _
  refine (insNil60 cmp t).mono ?_
  rintro v t1 rfl
  refine HLoop.ghost (σ := Unit) (fun _ => [.lit (.int .i64 20)]) (fun _ t => t = t1) (fun _ => 0) () rfl rfl ?_
  rintro _ t K rfl hK
  rfl
/-- An own row sorted: the state is the same but for it. -/
theorem sortRow53 {b t : HS} {cmp A : HV} {l : List Mem} (hA : Acc0 b t 2 A l.length (rows memC l)) (hb : HS.le b t) (hc : ∀ q, b q = none → CmpOk Try.prog cmp memC ltM [] t q) (hl : l.length < 1099511627776) :
    HC Try.prog 53 [A, cmp] t (fun v t' => ∃ l', l'.Perm l ∧ l'.Pairwise (fun x y => ltM y x = false) ∧ Acc0 b t' 2 A l'.length (rows memC l') ∧ HS.le b t') := by
  have own : ∀ q f, b q = none → A = .view q 0 2 l.length f → t q = some (.cells (rows memC l)) → HC Try.prog 53 [A, cmp] t (fun v t' => ∃ l', l'.Perm l ∧ l'.Pairwise (fun x y => ltM y x = false) ∧ Acc0 b t' 2 A l'.length (rows memC l') ∧ HS.le b t') := by
    rintro q f h1 rfl h2
    have e : Lay memC [] t q l = t := lay_self (by rw [List.append_nil]; exact h2)
    have := sort53 (f := f) (Q := fun v t' => ∃ l', l'.Perm l ∧ l'.Pairwise (fun x y => ltM y x = false) ∧ Acc0 b t' 2 (.view q 0 2 l.length f) l'.length (rows memC l') ∧ HS.le b t') m0 (ordr_name Mem.id) memC_len memC_one (hc q h1) (M := l) hl fun l' p1 p2 => ?_
    · rw [e] at this; exact this
    · refine ⟨l', p1, p2, ?_, ?_⟩
      · have hlen : l'.length = l.length := p1.length_eq
        rw [hlen]
        have at_ : Lay memC [] t q l' q = some (.cells (rows memC l')) := by rw [lay_at, List.append_nil]
        by_cases h0 : l.length = 0
        · rcases hA with (⟨h, -⟩ | ⟨q', f', g1, g2, g3, g4, g5⟩) | ⟨g1, g2, q', g3, g4, g5⟩
          · cases h
          · exact absurd h0 g5
          · have hf : f = true := by injection g4
            obtain rfl : l' = [] := List.eq_nil_of_length_eq_zero (by omega)
            exact .inr ⟨g1, rfl, q, h1, by rw [h0, hf], at_⟩
        · exact .inl (.inr ⟨q, f, h1, rfl, at_, by rw [rows_len memC_len, hlen], h0⟩)
      · exact le_set_free _ hb h1
  rcases hA with (⟨rfl, h2, h3⟩ | ⟨q, f, h1, h2, h3, h4, h5⟩) | ⟨h1, h2, q, h3, h4, h5⟩
  · obtain rfl : l = [] := List.eq_nil_of_length_eq_zero h3
    refine (sortNil53 cmp t).mono ?_
    rintro v t' rfl
    exact ⟨[], List.Perm.refl _, List.Pairwise.nil, .inl (Acc.nil _ _ _), hb⟩
  · exact own q f h1 h2 h3
  · obtain rfl : l = [] := List.eq_nil_of_length_eq_zero h1
    exact own q true h3 h4 h5
theorem sorted43 {s : HS} {A : HV} {l : List Mem} (h : RowV s 2 A l.length (rows memC l)) (hl : l.length ≤ 1000000) :
    HC Try.prog 43 [A, .func (.func 44) []] s (fun v t => HS.le s t ∧ ((¬ (l.map Mem.id).Nodup ∧ v = .tup [nilV, .lit (.bool false)]) ∨ ((l.map Mem.id).Nodup ∧ ∃ l', l'.Perm l ∧ l'.Pairwise (fun x y => ltM x y = true) ∧ ∃ A', v = .tup [A', .lit (.bool true)] ∧ Acc0 s t 2 A' l'.length (rows memC l')))) := by
  refine HC43 ?_
  unfold c43
  refine hbox_intro (hc_func _ _) fun nb hnb => ?_
  have hle1 := le_set_new (.cells [.func (.func 44) []]) (le_refl' s) hnb
  have en := set_at s nb (.cells [.func (.func 44) []])
  generalize s.set nb (.cells [.func (.func 44) []]) = s1 at *
  refine (clone52 (h.le hle1) (by omega)).mono ?_
  rintro A1 s2 ⟨hA1, hle2⟩
  have en2 := hle2 _ _ en
  refine (sortRow53 hA1 hle2 (fun q hq => cmp54 en2 (by rintro rfl; rw [en] at hq; cases hq)) (by omega)).mono ?_
  rintro v s3 ⟨l', hp, hso, hA', hle3⟩
  have en3 := hle3 _ _ en
  have hlen : l'.length = l.length := hp.length_eq
  have hnd : (l.map Mem.id).Nodup ↔ (l'.map Mem.id).Nodup := (hp.map _).nodup_iff.symm
  have hrow := acc0_row hA'
  refine HLoop.ghost (σ := Nat) (fun i => [.lit (.int .i64 (i : Int))]) (fun i t => 1 ≤ i ∧ t = s3 ∧ ∀ j, j + 1 < i → j + 1 < l'.length → (l'.getD (j + 1) m0).id ≠ (l'.getD j m0).id) (fun i => l'.length + 1 - i) 1 rfl ⟨Nat.le_refl _, rfl, fun j h1 h2 => by omega⟩ ?_
  rintro i t K ⟨h1, rfl, h3⟩ hK
  have hvl : vLenT (Try.prog.underlying 28) t A1 = some (.lit (.int .i64 (l'.length : Int))) := hrow.len _ t
  simp only [List.headD_cons, hvl, bindO, lss_i]
  by_cases hi : i < l'.length
  · obtain ⟨q, x1, y1⟩ := hrow.at_ memC_len m0 hi
    obtain ⟨q2, x2, y2⟩ := hrow.at_ memC_len m0 (show i - 1 < l'.length by omega)
    have lL : vLoad t (.ptr nb 0) 1 false = some (.func (.func 44) []) := load_cell 0 1 en3
    have z2 := (y2 t (le_refl' t)).1
    simp only [hi, decide_true, hcond, lL, x1, (y1 t (le_refl' t)).1]
    rw [wlit1, sub_i h1 (by omega)]
    simp only [x2, z2, hcall, hite_eq, plain44, if_true, List.append_nil]
    refine (name44 _ t).mono ?_
    rintro v t1 ⟨rfl, rfl⟩
    refine ⟨z2, lL, (name44 _ t1).mono ?_⟩
    rintro v t2 ⟨rfl, rfl⟩
    simp only [vCmp, vBin, strV, toL]
    cases he : ((l'.getD i m0).id == (l'.getD (i - 1) m0).id) with
    | true =>
      refine ⟨HS.le.trans hle1 hle3, .inl ⟨?_, trivial⟩⟩
      rw [hnd]
      intro hn
      have hij := (List.pairwise_iff_getElem.1 hn) (i - 1) i (by simp; omega) (by simpa using hi) (by omega)
      simp only [List.getElem_map] at hij
      rw [getD_get _ _ hi, getD_get _ _ (show i - 1 < l'.length by omega)] at he
      exact hij (eq_of_beq he).symm
    | false =>
      simp only [if_true]
      rw [show IntKind.i64.wrap ((i : Int) + ((1 : Nat) : Int)) = ((i + 1 : Nat) : Int) from wrap_add1 (by omega)]
      refine hK (i + 1) _ _ rfl ⟨by omega, rfl, fun j k1 k2 => ?_⟩ (by show l'.length + 1 - (i + 1) < l'.length + 1 - i; omega)
      by_cases hj : j + 1 < i
      · exact h3 j hj k2
      · obtain rfl : i = j + 1 := by omega
        intro e
        rw [show j + 1 - 1 = j by omega, e] at he
        simp at he
  · simp only [hi, decide_false, hcond]
    have hadj : ∀ j, j + 1 < l'.length → bl_ (l'.getD j m0).id (l'.getD (j + 1) m0).id = true := fun j hj => by
      have h5 := List.pairwise_iff_getElem.1 hso j (j + 1) (by omega) hj (by omega)
      have h6 := h3 j (by omega) hj
      rw [getD_get _ _ hj, getD_get _ _ (show j < l'.length by omega)] at h6 ⊢
      rcases bl_tri _ _ h5 with e | e
      · exact absurd e h6
      · exact e
    have hstr : l'.Pairwise (fun x y => ltM x y = true) := by
      rw [List.pairwise_iff_getElem]
      intro a b ha hb hab
      obtain ⟨d, rfl⟩ : ∃ d, b = a + d + 1 := ⟨b - a - 1, by omega⟩
      clear hab
      induction d with
      | zero =>
        have := hadj a (by omega)
        rwa [getD_get _ _ ha, getD_get _ _ hb] at this
      | succ d ih =>
        have h7 := ih (by omega)
        have h8 := hadj (a + d + 1) (by omega)
        rw [getD_get _ _ (show a + d + 1 < l'.length by omega), getD_get _ _ (show a + d + 1 + 1 < l'.length by omega)] at h8
        exact bl_trans _ _ _ h7 h8
    refine ⟨HS.le.trans hle1 hle3, .inr ⟨?_, l', hp, hstr, A1, rfl, ?_⟩⟩
    · rw [hnd]
      unfold List.Nodup
      rw [List.pairwise_map]
      exact hstr.imp fun {x y} hxy e => by
        have hxy' : bl_ x.id y.id = true := hxy
        rw [e, bl_irrefl] at hxy'
        cases hxy'
    · rcases hA' with hA' | ⟨g1, g2, q, g3, g4⟩
      · exact .inl (hA'.base hle1)
      · exact .inr ⟨g1, g2, q, none_of_le hle1 g3, g4⟩
theorem name46 (m : Top) (u : HS) : HC Try.prog 46 [.agg (topC m)] u (fun v u' => u' = u ∧ v = strV m.name) := by
  refine HC.weaken (HC46 ?_)
  simp only [c46, hBox, hcells, bindO, vField]
  intro id hid
  simp only [Nat.zero_add]
  rw [load_cell 0 1 (set_at u id _)]
  exact ⟨u, le_set_new _ (le_refl' u) hid, rfl, rfl⟩
theorem plain46 : plainFn Try.prog 46 = true := by unfold plainFn; rw [Try.func46]; rfl
theorem cmp55 {s : HS} {rest : List HV} {q nb : Nat} (hnb : s nb = some (.cells [.func (.func 46) []])) (hq : nb ≠ q) : CmpOk Try.prog (.func (.func 55) [.ptr nb 0]) topC ltT rest s q := by
  intro M x y K hK
  have hp : plainFn Try.prog 55 = true := by unfold plainFn; rw [Try.func55]; rfl
  have hp4 := plain46
  have hL : Lay topC rest s q M nb = some (.cells [.func (.func 46) []]) := by unfold Lay; rw [set_ne _ _ hq]; exact hnb
  generalize Lay topC rest s q M = t at *
  simp only [hcall, hite_eq, hp, if_true, List.cons_append, List.nil_append]
  refine HC.weaken (HC55 ?_)
  simp only [c55, hBox, hcells]
  intro i1 h1
  have n1 := ne_new hL h1
  have e1 := set_at t i1 (.cells (topC x))
  have eL : (t.set i1 (.cells (topC x))) nb = some (.cells [.func (.func 46) []]) := by rw [set_ne _ _ n1]; exact hL
  have hle := le_set_new (.cells (topC x)) (le_refl' t) h1
  generalize t.set i1 (.cells (topC x)) = t1 at *
  intro i2 h2
  have e2 := set_at t1 i2 (.cells (topC y))
  have e3 : (t1.set i2 (.cells (topC y))) i1 = some (.cells (topC x)) := by rw [set_ne _ _ (ne_new e1 h2)]; exact e1
  have eL2 : (t1.set i2 (.cells (topC y))) nb = some (.cells [.func (.func 46) []]) := by rw [set_ne _ _ (ne_new eL h2)]; exact eL
  have hle2 := le_set_new (.cells (topC y)) hle h2
  generalize t1.set i2 (.cells (topC y)) = t2 at *
  have l2 := load_all (topC_len y) e2
  have lL : vLoad t2 (.ptr nb 0) 1 false = some (.func (.func 46) []) := load_cell 0 1 eL2
  rw [lL, load_all (topC_len x) e3, l2]
  simp only [bindO, hcall, hite_eq, hp4, if_true, List.append_nil]
  refine (name46 x t2).mono ?_
  rintro v t3 ⟨rfl, rfl⟩
  refine ⟨l2, lL, (name46 y t3).mono ?_⟩
  rintro v t4 ⟨rfl, rfl⟩
  refine (cmp40 x.name y.name t4).mono ?_
  rintro v t5 ⟨rfl, n, rfl, hn⟩
  exact ⟨t, hle2, hK n hn⟩
theorem clone37 {s : HS} {A : HV} {n : Nat} {cs : List HV} (h : RowV s 2 A n cs) (hn : n ≤ 1000000000) : HC Try.prog 37 [A] s (fun v t => Acc0 s t 2 v n cs ∧ HS.le s t) := by
  refine HC37 ?_
  unfold c37
  have hcl := h.cl
  rcases h with ⟨rfl, rfl, rfl⟩ | ⟨q, f, rfl, h2, h3⟩
  · exact ⟨.inl (Acc.nil _ _ _), le_refl' s⟩
  · rw [show vCmp (Try.prog.underlying 37) .eql (.view q 0 2 n f) (.lit (.slice none 0 0)) = some (.lit (.bool false)) from rfl]
    simp only [bindO, hcond]
    refine hBS0 fun id hid => ?_
    have hr : RowV s 2 (.view q 0 2 n f) n cs := .inr ⟨q, f, rfl, h2, h3⟩
    exact app_empty (b := s) (le_set_new _ (le_refl' s) hid) hid (set_at _ _ _) (hr.le (le_set_new _ (le_refl' s) hid)).lc hr.llen hcl ⟨by omega, by omega⟩ fun A' t' k1 k2 => ⟨k1, k2⟩
theorem insNil56 (cmp : HV) (s : HS) : HC Try.prog 56 [nilV, .lit (.int .i64 0), .lit (.int .i64 0), cmp] s (fun v t => t = s) := by
  refine HC56 ?_
  unfold c56
  rw [show vBin .add (.lit (.int .i64 0)) (.lit (.int .i64 1)) = some (.lit (.int .i64 ((0 + 1 : Nat) : Int))) from add_i (a := 0) (b := 1) (by omega)]
  simp only [bindO]
  refine HLoop.ghost (σ := Unit) (fun _ => [.lit (.int .i64 ((0 + 1 : Nat) : Int))]) (fun _ t => t = s) (fun _ => 0) () rfl rfl ?_
  rintro _ t K rfl hK
  rfl
theorem sortNil38 (cmp : HV) (s : HS) : HC Try.prog 38 [nilV, cmp] s (fun v t => t = s) := by
  refine HC38 ?_
  show HC Try.prog 49 [nilV, .lit (.int .i64 0), cmp] s _
  refine HC49 ?_
  refine HLoop.ghost (σ := Unit) (fun _ => [.lit (.int .i64 0), .lit (.int .i64 20)]) (fun _ t => t = s) (fun _ => 0) () rfl rfl ?_
  rintro _ t K rfl hK
  show HC Try.prog 56 [nilV, .lit (.int .i64 0), .lit (.int .i64 0), cmp] t _
  refine (insNil56 cmp t).mono ?_
  rintro v t1 rfl
  refine HLoop.ghost (σ := Unit) (fun _ => [.lit (.int .i64 20)]) (fun _ t => t = t1) (fun _ => 0) () rfl rfl ?_
  rintro _ t K rfl hK
  rfl
/-- An own row sorted: the state is the same but for it. -/
theorem sortRow38 {b t : HS} {cmp A : HV} {l : List Top} (hA : Acc0 b t 2 A l.length (rows topC l)) (hb : HS.le b t) (hc : ∀ q, b q = none → CmpOk Try.prog cmp topC ltT [] t q) (hl : l.length < 1099511627776) :
    HC Try.prog 38 [A, cmp] t (fun v t' => ∃ l', l'.Perm l ∧ l'.Pairwise (fun x y => ltT y x = false) ∧ Acc0 b t' 2 A l'.length (rows topC l') ∧ HS.le b t') := by
  have own : ∀ q f, b q = none → A = .view q 0 2 l.length f → t q = some (.cells (rows topC l)) → HC Try.prog 38 [A, cmp] t (fun v t' => ∃ l', l'.Perm l ∧ l'.Pairwise (fun x y => ltT y x = false) ∧ Acc0 b t' 2 A l'.length (rows topC l') ∧ HS.le b t') := by
    rintro q f h1 rfl h2
    have e : Lay topC [] t q l = t := lay_self (by rw [List.append_nil]; exact h2)
    have := sort38 (f := f) (Q := fun v t' => ∃ l', l'.Perm l ∧ l'.Pairwise (fun x y => ltT y x = false) ∧ Acc0 b t' 2 (.view q 0 2 l.length f) l'.length (rows topC l') ∧ HS.le b t') t0 (ordr_name Top.name) topC_len topC_one (hc q h1) (M := l) hl fun l' p1 p2 => ?_
    · rw [e] at this; exact this
    · refine ⟨l', p1, p2, ?_, ?_⟩
      · have hlen : l'.length = l.length := p1.length_eq
        rw [hlen]
        have at_ : Lay topC [] t q l' q = some (.cells (rows topC l')) := by rw [lay_at, List.append_nil]
        by_cases h0 : l.length = 0
        · rcases hA with (⟨h, -⟩ | ⟨q', f', g1, g2, g3, g4, g5⟩) | ⟨g1, g2, q', g3, g4, g5⟩
          · cases h
          · exact absurd h0 g5
          · have hf : f = true := by injection g4
            obtain rfl : l' = [] := List.eq_nil_of_length_eq_zero (by omega)
            exact .inr ⟨g1, rfl, q, h1, by rw [h0, hf], at_⟩
        · exact .inl (.inr ⟨q, f, h1, rfl, at_, by rw [rows_len topC_len, hlen], h0⟩)
      · exact le_set_free _ hb h1
  rcases hA with (⟨rfl, h2, h3⟩ | ⟨q, f, h1, h2, h3, h4, h5⟩) | ⟨h1, h2, q, h3, h4, h5⟩
  · obtain rfl : l = [] := List.eq_nil_of_length_eq_zero h3
    refine (sortNil38 cmp t).mono ?_
    rintro v t' rfl
    exact ⟨[], List.Perm.refl _, List.Pairwise.nil, .inl (Acc.nil _ _ _), hb⟩
  · exact own q f h1 h2 h3
  · obtain rfl : l = [] := List.eq_nil_of_length_eq_zero h1
    exact own q true h3 h4 h5
theorem sorted45 {s : HS} {A : HV} {l : List Top} (h : RowV s 2 A l.length (rows topC l)) (hl : l.length ≤ 1000000) :
    HC Try.prog 45 [A, .func (.func 46) []] s (fun v t => HS.le s t ∧ ((¬ (l.map Top.name).Nodup ∧ v = .tup [nilV, .lit (.bool false)]) ∨ ((l.map Top.name).Nodup ∧ ∃ l', l'.Perm l ∧ l'.Pairwise (fun x y => ltT x y = true) ∧ ∃ A', v = .tup [A', .lit (.bool true)] ∧ Acc0 s t 2 A' l'.length (rows topC l')))) := by
  refine HC45 ?_
  unfold c45
  refine hbox_intro (hc_func _ _) fun nb hnb => ?_
  have hle1 := le_set_new (.cells [.func (.func 46) []]) (le_refl' s) hnb
  have en := set_at s nb (.cells [.func (.func 46) []])
  generalize s.set nb (.cells [.func (.func 46) []]) = s1 at *
  refine (clone37 (h.le hle1) (by omega)).mono ?_
  rintro A1 s2 ⟨hA1, hle2⟩
  have en2 := hle2 _ _ en
  refine (sortRow38 hA1 hle2 (fun q hq => cmp55 en2 (by rintro rfl; rw [en] at hq; cases hq)) (by omega)).mono ?_
  rintro v s3 ⟨l', hp, hso, hA', hle3⟩
  have en3 := hle3 _ _ en
  have hlen : l'.length = l.length := hp.length_eq
  have hnd : (l.map Top.name).Nodup ↔ (l'.map Top.name).Nodup := (hp.map _).nodup_iff.symm
  have hrow := acc0_row hA'
  refine HLoop.ghost (σ := Nat) (fun i => [.lit (.int .i64 (i : Int))]) (fun i t => 1 ≤ i ∧ t = s3 ∧ ∀ j, j + 1 < i → j + 1 < l'.length → (l'.getD (j + 1) t0).name ≠ (l'.getD j t0).name) (fun i => l'.length + 1 - i) 1 rfl ⟨Nat.le_refl _, rfl, fun j h1 h2 => by omega⟩ ?_
  rintro i t K ⟨h1, rfl, h3⟩ hK
  have hvl : vLenT (Try.prog.underlying 37) t A1 = some (.lit (.int .i64 (l'.length : Int))) := hrow.len _ t
  simp only [List.headD_cons, hvl, bindO, lss_i]
  by_cases hi : i < l'.length
  · obtain ⟨q, x1, y1⟩ := hrow.at_ topC_len t0 hi
    obtain ⟨q2, x2, y2⟩ := hrow.at_ topC_len t0 (show i - 1 < l'.length by omega)
    have lL : vLoad t (.ptr nb 0) 1 false = some (.func (.func 46) []) := load_cell 0 1 en3
    have z2 := (y2 t (le_refl' t)).1
    simp only [hi, decide_true, hcond, lL, x1, (y1 t (le_refl' t)).1]
    rw [wlit1, sub_i h1 (by omega)]
    simp only [x2, z2, hcall, hite_eq, plain46, if_true, List.append_nil]
    refine (name46 _ t).mono ?_
    rintro v t1 ⟨rfl, rfl⟩
    refine ⟨z2, lL, (name46 _ t1).mono ?_⟩
    rintro v t2 ⟨rfl, rfl⟩
    simp only [vCmp, vBin, strV, toL]
    cases he : ((l'.getD i t0).name == (l'.getD (i - 1) t0).name) with
    | true =>
      refine ⟨HS.le.trans hle1 hle3, .inl ⟨?_, trivial⟩⟩
      rw [hnd]
      intro hn
      have hij := (List.pairwise_iff_getElem.1 hn) (i - 1) i (by simp; omega) (by simpa using hi) (by omega)
      simp only [List.getElem_map] at hij
      rw [getD_get _ _ hi, getD_get _ _ (show i - 1 < l'.length by omega)] at he
      exact hij (eq_of_beq he).symm
    | false =>
      simp only [if_true]
      rw [show IntKind.i64.wrap ((i : Int) + ((1 : Nat) : Int)) = ((i + 1 : Nat) : Int) from wrap_add1 (by omega)]
      refine hK (i + 1) _ _ rfl ⟨by omega, rfl, fun j k1 k2 => ?_⟩ (by show l'.length + 1 - (i + 1) < l'.length + 1 - i; omega)
      by_cases hj : j + 1 < i
      · exact h3 j hj k2
      · obtain rfl : i = j + 1 := by omega
        intro e
        rw [show j + 1 - 1 = j by omega, e] at he
        simp at he
  · simp only [hi, decide_false, hcond]
    have hadj : ∀ j, j + 1 < l'.length → bl_ (l'.getD j t0).name (l'.getD (j + 1) t0).name = true := fun j hj => by
      have h5 := List.pairwise_iff_getElem.1 hso j (j + 1) (by omega) hj (by omega)
      have h6 := h3 j (by omega) hj
      rw [getD_get _ _ hj, getD_get _ _ (show j < l'.length by omega)] at h6 ⊢
      rcases bl_tri _ _ h5 with e | e
      · exact absurd e h6
      · exact e
    have hstr : l'.Pairwise (fun x y => ltT x y = true) := by
      rw [List.pairwise_iff_getElem]
      intro a b ha hb hab
      obtain ⟨d, rfl⟩ : ∃ d, b = a + d + 1 := ⟨b - a - 1, by omega⟩
      clear hab
      induction d with
      | zero =>
        have := hadj a (by omega)
        rwa [getD_get _ _ ha, getD_get _ _ hb] at this
      | succ d ih =>
        have h7 := ih (by omega)
        have h8 := hadj (a + d + 1) (by omega)
        rw [getD_get _ _ (show a + d + 1 < l'.length by omega), getD_get _ _ (show a + d + 1 + 1 < l'.length by omega)] at h8
        exact bl_trans _ _ _ h7 h8
    refine ⟨HS.le.trans hle1 hle3, .inr ⟨?_, l', hp, hstr, A1, rfl, ?_⟩⟩
    · rw [hnd]
      unfold List.Nodup
      rw [List.pairwise_map]
      exact hstr.imp fun {x y} hxy e => by
        have hxy' : bl_ x.name y.name = true := hxy
        rw [e, bl_irrefl] at hxy'
        cases hxy'
    · rcases hA' with hA' | ⟨g1, g2, q, g3, g4⟩
      · exact .inl (hA'.base hle1)
      · exact .inr ⟨g1, g2, q, none_of_le hle1 g3, g4⟩
end Go.Proofs.Ytkcgokkgefgcjaa.AS
end
section
namespace Go.Proofs.Ytkcgokkgefgcjaa.AS
open Go.Proofs.Ytkcgokkgefgcjaa.H Go.Proofs.Ytkcgokkgefgcjaa.A0
set_option linter.unusedVariables false
set_option linter.unusedSimpArgs false
set_option maxRecDepth 100000
abbrev Slot := By × Int
def slC (x : Slot) : List HV := [strV x.1, .lit (.int .i64 x.2)]
theorem slC_len (x : Slot) : (slC x).length = 2 := rfl
structure Sh where
  who : By
  row : HV
  sl : List Slot
def shC (x : Sh) : List HV := [strV x.who, x.row]
theorem shC_len (x : Sh) : (shC x).length = 2 := rfl
def x0 : Sh := ⟨[], nilV, []⟩
/-- Shares: a row of names and of rows that grow, each one of its own. -/
structure Shares (b t : HS) (q : Nat) (L : List Sh) : Prop where
  free : b q = none
  at_ : t q = some (.cells (rows shC L))
  acc : ∀ x ∈ L, Acc b t 2 x.row x.sl.length (rows slC x.sl)
  apart : ∀ i j, i < j → j < L.length → accId (L.getD i x0).row = none ∨ accId (L.getD i x0).row ≠ accId (L.getD j x0).row
  self : ∀ x ∈ L, accId x.row ≠ some q
theorem hBS_mono {t : HS} {sz k : Nat} {zs : List HV} {l : List (Nat × HV)} {K K' : HV → HS → Prop} (h : hBS t sz k zs l K) (hk : ∀ v s, K v s → K' v s) : hBS t sz k zs l K' := by
  unfold hBS at h ⊢
  split
  · rename_i cs e
    rw [e] at h
    exact fun id hid => hk _ _ (h id hid)
  · rename_i e
    rw [e] at h
    exact h
theorem contains28 (o : Option (List By)) (k : By) (s : HS) (hl : (o.getD []).length ≤ 1000000000) : HC Try.prog 28 [rowV strC 1 o, strV k] s (fun v s' => v = .lit (.bool ((o.getD []).contains k)) ∧ s' = s) := by
  refine HC28 ?_
  unfold c28
  have hi : HC Try.prog 47 [rowV strC 1 o, strV k] s (fun v s' => v = .lit (.int .i64 (idxI (fun x => k == x) (o.getD []))) ∧ s' = s) := by
    refine HC47 ?_
    unfold c47
    have hlen : ∀ t, vLenT (Try.prog.underlying 29) t (rowV strC 1 o) = some (.lit (.int .i64 (((o.getD []).length : Nat) : Int))) := fun t => by cases o <;> rfl
    have hidx : ∀ i : Nat, i < (o.getD []).length → vIdx 1 (rowV strC 1 o) (.lit (.int .i64 (i : Int))) = some (.elt (strC ((o.getD []).getD i [])) 0) := fun i hi => by
      cases o with
      | none => simp at hi
      | some l => exact idx_rowL (enc := strC) (sz := 1) (fun _ => rfl) [] l .i64 hi
    simp only [hlen, bindO]
    generalize o.getD [] = l at *
    refine HLoop.ghost (σ := Nat) (fun i => [.lit (.int .i64 (i : Int))]) (fun i t => i ≤ l.length ∧ t = s ∧ ∀ x ∈ l.take i, (k == x) = false) (fun i => l.length - i) 0 rfl ⟨Nat.zero_le _, rfl, by simp⟩ ?_
    rintro i t K ⟨h1, rfl, h2⟩ hK
    simp only [List.headD_cons, lss_i]
    by_cases hlt : i < l.length
    · simp only [hlt, decide_true, hcond, hidx i hlt]
      rw [show vLoad t (.elt (strC (l.getD i [])) 0) 1 false = some (strV (l.getD i [])) from rfl, getD_get _ _ hlt]
      simp only [strV, vCmp, vBin, toL]
      cases he : (k == l[i]) with
      | true =>
        simp only
        refine ⟨?_, trivial⟩
        rw [idxI_at hlt h2 he]
      | false =>
        simp only [if_true, wrap_add1 (show i < 9223372036854775807 by omega)]
        refine hK (i + 1) _ _ rfl ⟨hlt, rfl, fun x hx => ?_⟩ (by show l.length - (i + 1) < l.length - i; omega)
        rw [take_succ' [] l hlt, getD_get _ _ hlt] at hx
        rcases List.mem_append.1 hx with hx | hx
        · exact h2 x hx
        · simp only [List.mem_singleton] at hx; rw [hx]; exact he
    · simp only [hlt, decide_false, hcond]
      obtain rfl : i = l.length := by omega
      rw [List.take_length] at h2
      rw [idxI_none h2]
      exact ⟨rfl, trivial⟩
  refine hi.mono ?_
  rintro v t ⟨rfl, rfl⟩
  simp only [vBin, if_true, bindO]
  refine ⟨?_, trivial⟩
  congr 2
  rcases idxI_cases (fun x => k == x) (o.getD []) with ⟨h1, h2⟩ | ⟨i, h1, h2, h3, h4⟩
  · rw [h1]
    have : (o.getD []).contains k = false := by
      cases e : (o.getD []).contains k with
      | false => rfl
      | true =>
        have := List.contains_iff_mem.1 e
        have h5 := h2 k this
        simp at h5
    rw [this]
    rfl
  · rw [h2]
    have : (o.getD []).contains k = true := by
      rw [List.contains_iff_mem]
      have := eq_of_beq h3
      rw [this]
      exact List.getElem_mem h1
    rw [this]
    simp
theorem rows_getD {α : Type} {enc : α → List HV} {sz : Nat} (h : ∀ x, (enc x).length = sz) (z : α) (l : List α) {i j : Nat} (hi : i < l.length) (hj : j < sz) : (rows enc l)[i * sz + j]? = (enc (l.getD i z))[j]? := by
  have h3 := rows_idx h z l i hi
  rw [← h3, List.getElem?_take, if_pos hj, List.getElem?_drop]
/-- One cell of one share is put. -/
theorem put_row (L : List Sh) (i : Nat) (hi : i < L.length) (A : HV) (sl : List Slot) : putCells (rows shC L) (i * 2 + 1) [A] = rows shC (L.set i ⟨(L.getD i x0).who, A, sl⟩) := by
  induction L generalizing i with
  | nil => simp at hi
  | cons x L ih =>
    cases i with
    | zero => rfl
    | succ i =>
      have hi' : i < L.length := by simpa using hi
      have := ih i hi'
      simp only [putCells, List.length_singleton] at this ⊢
      rw [rows_cons, List.set_cons_succ, rows_cons, show (x :: L).getD (i + 1) x0 = L.getD i x0 from rfl, ← this, show (i + 1) * 2 + 1 = (i * 2 + 1) + 1 + 1 by omega]
      rfl
theorem gives29 {b t : HS} {q : Nat} {L : List Sh} (h : Shares b t q L) (hb : HS.le b t) (mv tv : HV) (n : Nat) (f : Bool) {i : Nat} (hn : n = L.length) (hi : i < L.length) (x : Slot) (hx : (L.getD i x0).sl.length < 1000000000000) :
    HC Try.prog 29 [.agg [mv, tv, .view q 0 2 n f], .lit (.int .i64 (i : Int)), .agg (slC x)] t (fun v t' => ∃ A, Shares b t' q (L.set i ⟨(L.getD i x0).who, A, (L.getD i x0).sl ++ [x]⟩) ∧ HS.le b t' ∧ ∀ k ob, t k = some ob → k ≠ q → accId (L.getD i x0).row ≠ some k → t' k = some ob) := by
  refine HC29 ?_
  unfold c29
  have hAi := h.acc (L.getD i x0) (by rw [getD_get _ _ hi]; exact List.getElem_mem hi)
  have hself := h.self (L.getD i x0) (by rw [getD_get _ _ hi]; exact List.getElem_mem hi)
  refine hbox_intro (hc_agg _) fun b1 hb1 => ?_
  have nb1 : ∀ k ob, t k = some ob → k ≠ b1 := fun k ob hk => ne_new hk hb1
  have e1 := set_at t b1 (.cells [mv, tv, .view q 0 2 n f])
  have keep1 : ∀ k ob, t k = some ob → (t.set b1 (.cells [mv, tv, .view q 0 2 n f])) k = some ob := fun k ob hk => by rw [set_ne _ _ (nb1 k ob hk)]; exact hk
  have hA1 := hAi.new (.cells [mv, tv, .view q 0 2 n f]) hb1
  have hle1 := le_set_new (.cells [mv, tv, .view q 0 2 n f]) hb hb1
  have hAb1 : accId (L.getD i x0).row ≠ some b1 := fun e => nb1 _ _ (hAi.free e).2 rfl
  generalize t.set b1 (.cells [mv, tv, .view q 0 2 n f]) = t1 at *
  refine hbox_intro (hc_agg _) fun b2 hb2 => ?_
  have e2 := set_at t1 b2 (.cells (slC x))
  have e12 : (t1.set b2 (.cells (slC x))) b1 = some (.cells [mv, tv, .view q 0 2 n f]) := by rw [set_ne _ _ (ne_new e1 hb2)]; exact e1
  have keep2 : ∀ k ob, t k = some ob → (t1.set b2 (.cells (slC x))) k = some ob := fun k ob hk => by rw [set_ne _ _ (ne_new (keep1 k ob hk) hb2)]; exact keep1 k ob hk
  have hA2 := hA1.new (.cells (slC x)) hb2
  have hle2 := le_set_new (.cells (slC x)) hle1 hb2
  generalize t1.set b2 (.cells (slC x)) = t2 at *
  have hq2 := keep2 _ _ h.at_
  have l5 : vLoad t2 (.ptr b1 (0 + 2)) 1 false = some (.view q 0 2 n f) := load_cell 2 1 e12
  have l10 : vLoad t2 (.ptr q (i * 2 + 1)) 1 false = some (L.getD i x0).row := by
    rw [load_cell _ 1 hq2, rows_getD shC_len x0 L hi (by omega)]; rfl
  have l12 : vLoad t2 (.ptr b2 0) 2 true = some (.agg (slC x)) := load_all (slC_len x) e2
  simp only [vField, bindO, l5, lay_idx (show i < n by omega), l10, l12]
  have key := hA2.app1W (by_ := 24) (zs := [.lit (.string .empty), .lit (.int .i64 0)]) (W := fun s14 => vLoad s14 (.ptr q (i * 2 + 1)) 1 false = some (L.getD i x0).row ∧ vLoad s14 (.ptr b1 (0 + 2)) 1 false = some (.view q 0 2 n f)) (K := fun x15 s16 => vLoad s16 (.ptr b1 (0 + 2)) 1 false = some (.view q 0 2 n f) ∧ hStore s16 (.ptr q (i * 2 + 1)) x15 1 (fun s19 => ∃ A, Shares b s19 q (L.set i ⟨(L.getD i x0).who, A, (L.getD i x0).sl ++ [x]⟩) ∧ HS.le b s19 ∧ ∀ k ob, t k = some ob → k ≠ q → accId (L.getD i x0).row ≠ some k → s19 k = some ob)) hle2 (hc_agg (slC x)) rfl rfl ⟨by omega, by omega⟩ ?_ ?_
  · refine hBS_mono key fun v s hh => ?_
    obtain ⟨⟨w1, w2⟩, w3⟩ := hh
    refine ⟨w1, w2, w2, ?_⟩
    rw [w2]
    exact w3
  · intro id hid
    have f1 : (t2.set id (.cells (slC x))) q = some (.cells (rows shC L)) := by rw [set_ne _ _ (ne_new hq2 hid)]; exact hq2
    have f2 : (t2.set id (.cells (slC x))) b1 = some (.cells [mv, tv, .view q 0 2 n f]) := by rw [set_ne _ _ (ne_new e12 hid)]; exact e12
    refine ⟨?_, load_cell 2 1 f2⟩
    rw [load_cell _ 1 f1, rows_getD shC_len x0 L hi (by omega)]; rfl
  · intro A' t' k1 k2 k3
    obtain ⟨m1, m2⟩ := k3 b1 _ hAb1 e12
    obtain ⟨m3, m4⟩ := k3 q _ hself hq2
    refine ⟨load_cell 2 1 m1, ?_⟩
    have hpl : i * 2 + 1 + 1 ≤ (rows shC L).length := by rw [rows_len shC_len]; omega
    simp only [hStore, k1.hc, m3]
    refine ⟨by trivial, hpl, by simp [k1.one], A', ?_, le_set_free _ k2 h.free, ?_⟩
    · rw [put_row L i hi]
      have gj : ∀ j, j < L.length → j ≠ i → (L.set i ⟨(L.getD i x0).who, A', (L.getD i x0).sl ++ [x]⟩).getD j x0 = L.getD j x0 := fun j hj hne => by
        rw [List.getD, List.getElem?_set_ne (fun e => hne e.symm)]; rfl
      have gi : (L.set i ⟨(L.getD i x0).who, A', (L.getD i x0).sl ++ [x]⟩).getD i x0 = ⟨(L.getD i x0).who, A', (L.getD i x0).sl ++ [x]⟩ := by
        rw [List.getD, List.getElem?_set_self hi]; rfl
      have mem : ∀ j, j < L.length → L.getD j x0 ∈ L := fun j hj => by rw [getD_get _ _ hj]; exact List.getElem_mem hj
      have far : ∀ j, j < L.length → j ≠ i → ∀ k, accId (L.getD j x0).row = some k → accId (L.getD i x0).row ≠ some k := fun j hj hne k hk e => by
        rcases Nat.lt_or_ge i j with hlt | hge
        · rcases h.apart i j hlt hj with h1 | h1
          · rw [h1] at e; cases e
          · exact h1 (by rw [e, hk])
        · rcases h.apart j i (by omega) hi with h1 | h1
          · rw [h1] at hk; cases hk
          · exact h1 (by rw [e, hk])
      have cells : ∀ j, j < L.length → ∀ k, accId (L.getD j x0).row = some k → t k = some (.cells (rows slC (L.getD j x0).sl)) := fun j hj k hk => ((h.acc _ (mem j hj)).free hk).2
      refine ⟨h.free, set_at _ _ _, fun y hy => ?_, fun a c hac hc => ?_, fun y hy => ?_⟩
      · obtain ⟨j, hj, rfl⟩ := List.mem_iff_getElem.1 hy
        rw [List.length_set] at hj
        rw [← getD_get x0 _ (by rw [List.length_set]; exact hj)]
        by_cases hji : j = i
        · subst hji
          rw [gi]
          refine Acc.put ?_ _ m4
          rw [rows_app, rows_one, List.length_append]
          exact k1
        · rw [gj j hj hji]
          refine ((h.acc _ (mem j hj)).keep fun k ob hk hob => ?_).put _ (h.self _ (mem j hj))
          exact (k3 k ob (far j hj hji k hk) (keep2 k ob hob)).1
      · rw [List.length_set] at hc
        by_cases hai : a = i
        · subst hai
          rw [gi, gj c hc (by omega)]
          cases e : accId (L.getD c x0).row with
          | none =>
            cases e2 : accId A' with
            | none => exact .inl rfl
            | some k => exact .inr (fun h => by cases h)
          | some k => exact .inr (k3 k _ (far c hc (by omega) k e) (keep2 k _ (cells c hc k e))).2
        · by_cases hci : c = i
          · subst hci
            rw [gi, gj a (by omega) hai]
            cases e : accId (L.getD a x0).row with
            | none => exact .inl rfl
            | some k => exact .inr fun e2 => (k3 k _ (far a (by omega) hai k e) (keep2 k _ (cells a (by omega) k e))).2 e2.symm
          · rw [gj a (by omega) hai, gj c hc hci]
            exact h.apart a c hac hc
      · obtain ⟨j, hj, rfl⟩ := List.mem_iff_getElem.1 hy
        rw [List.length_set] at hj
        rw [← getD_get x0 _ (by rw [List.length_set]; exact hj)]
        by_cases hji : j = i
        · subst hji
          rw [gi]
          exact m4
        · rw [gj j hj hji]
          exact h.self _ (mem j hj)
    · intro k ob hk hkq hkA
      rw [set_ne _ _ hkq]
      exact (k3 k ob hkA (keep2 k ob hk)).1
end Go.Proofs.Ytkcgokkgefgcjaa.AS
end
section
namespace Go.Proofs.Ytkcgokkgefgcjaa.AS
open Go.Proofs.Ytkcgokkgefgcjaa.H Go.Proofs.Ytkcgokkgefgcjaa.A0
set_option linter.unusedVariables false
set_option linter.unusedSimpArgs false
set_option maxRecDepth 100000
def badT (t : Top) : Bool := decide (t.parts < 0) || decide (1000 < t.parts)
theorem bad42 (x : Top) (s : HS) : HC Try.prog 42 [.agg (topC x)] s (fun v t => t = s ∧ v = .lit (.bool (badT x))) := by
  refine HC.weaken (HC42 ?_)
  unfold c42
  refine hbox_intro (hc_agg _) fun p hp => ?_
  have l1 : vLoad (s.set p (.cells (topC x))) (.ptr p (0 + 1)) 1 false = some (.lit (.int .i64 x.parts)) := load_cell 1 1 (set_at _ _ _)
  simp only [vField, bindO, l1, vBin, if_true]
  have hle := le_set_new (.cells (topC x)) (le_refl' s) hp
  by_cases h1 : x.parts < 0
  · simp only [h1, decide_true, hcond]
    exact ⟨s, hle, rfl, by simp [badT, h1]⟩
  · simp only [h1, decide_false, hcond]
    exact ⟨s, hle, rfl, by simp [badT, h1]⟩
theorem any41 {s : HS} {A : HV} {l : List Top} (h : RowV s 2 A l.length (rows topC l)) (hl : l.length ≤ 1000000) : HC Try.prog 41 [A, .func (.func 42) []] s (fun v t => t = s ∧ v = .lit (.bool (l.any badT))) := by
  refine HC41 ?_
  unfold c41
  have hp : plainFn Try.prog 42 = true := by unfold plainFn; rw [Try.func42]; rfl
  have hi : HC Try.prog 51 [A, .func (.func 42) []] s (fun v t => v = .lit (.int .i64 (idxI badT l)) ∧ t = s) := by
    refine HC51 ?_
    rcases h with ⟨rfl, h2, h3⟩ | ⟨q, f, rfl, h2, h3⟩
    · obtain rfl : l = [] := List.eq_nil_of_length_eq_zero h3
      exact idxFunc_nil (Q := fun v t => v = .lit (.int .i64 (idxI badT [])) ∧ t = s) ⟨rfl, rfl⟩
    · refine idxFunc_gen (Q := fun v t => v = .lit (.int .i64 (idxI badT l)) ∧ t = s) topC_len t0 badT (rest := []) (by rw [List.append_nil]; exact h2) (by omega) (fun x hx K hK => ?_) ⟨rfl, rfl⟩
      simp only [hcall, hite_eq, hp, if_true, List.append_nil]
      refine (bad42 x s).mono ?_
      rintro v t ⟨rfl, rfl⟩
      exact hK
  refine hi.mono ?_
  rintro v t ⟨rfl, rfl⟩
  simp only [vBin, if_true, bindO]
  refine ⟨trivial, ?_⟩
  congr 2
  rcases idxI_cases badT l with ⟨h1, h2⟩ | ⟨i, h1, h2, h3, h4⟩
  · rw [h1, List.any_eq_false.2 fun x hx => by simp [h2 x hx]]
    rfl
  · rw [h2, List.any_eq_true.2 ⟨_, List.getElem_mem h1, h3⟩]
    simp
def okA (l : List Mem) (tl : List Top) : Prop := tl.any badT = false ∧ (l.map Mem.id).Nodup ∧ (tl.map Top.name).Nodup
def mk0 (l : List Mem) : List Sh := l.map fun m => ⟨m.id, nilV, []⟩
theorem acc0_one {b t : HS} {sz : Nat} {A : HV} {n : Nat} {cs : List HV} (h : Acc0 b t sz A n cs) : hone A = true ∧ hcells A = some [A] := by
  rcases h with h | ⟨-, -, q, -, rfl, -⟩
  · exact ⟨h.one, h.hc⟩
  · exact ⟨rfl, rfl⟩
theorem row_del {t : HS} {sz : Nat} {A : HV} {n : Nat} {cs : List HV} {b : HS} {p : Nat} (h : Acc0 b t sz A n cs) (hp : b p ≠ none) : RowV (t.del p) sz A n cs := by
  have hd : ∀ q ob, b q = none → t q = some ob → (t.del p) q = some ob := fun q ob hq ht => by
    have : q ≠ p := by rintro rfl; exact hp hq
    simp only [HS.del, if_neg this]; exact ht
  rcases h with (⟨h1, h2, h3⟩ | ⟨q, f, h1, rfl, h3, h4, h5⟩) | ⟨rfl, rfl, q, h1, rfl, h3⟩
  · exact .inl ⟨h1, h2, h3⟩
  · exact .inr ⟨q, f, rfl, hd _ _ h1 h3, h4⟩
  · exact .inr ⟨q, true, rfl, hd _ _ h1 h3, by simp⟩
def postOpen (l : List Mem) (tl : List Top) (s : HS) (v : HV) (u : HS) : Prop :=
  HS.le s u ∧ ((¬ okA l tl ∧ ∃ x y z, v = .tup [.agg [x, y, z], .lit (.bool false)] ∧ hone x = true ∧ hone y = true ∧ hone z = true) ∨
    (okA l tl ∧ ∃ ms ts A1 A2 SH b, ms.Perm l ∧ ts.Perm tl ∧ ms.Pairwise (fun x y => ltM x y = true) ∧ ts.Pairwise (fun x y => ltT x y = true) ∧ v = .tup [.agg [A1, A2, SH], .lit (.bool true)] ∧ hone A1 = true ∧ hone A2 = true ∧ hcells A2 = some [A2] ∧ HS.le s b ∧ HS.le b u ∧ RowV b 2 A1 ms.length (rows memC ms) ∧
      RowV b 2 A2 ts.length (rows topC ts) ∧ ((ms = [] ∧ SH = nilV) ∨ ∃ q f, SH = .view q 0 2 ms.length f ∧ Shares b u q (mk0 ms))))
theorem open27 {s : HS} {A B : HV} {l : List Mem} {tl : List Top} (hA : RowV s 2 A l.length (rows memC l)) (hB : RowV s 2 B tl.length (rows topC tl)) (hl : l.length ≤ 1000000) (htl : tl.length ≤ 1000000) :
    HC Try.prog 27 [A, B] s (fun v u => postOpen l tl s v u) := by
  refine HC27 ?_
  unfold c27
  intro p hp
  have ep := set_at s p (.cells [.lit (.slice none 0 0), .lit (.slice none 0 0), .lit (.slice none 0 0)])
  have hle1 := le_set_new (.cells [.lit (.slice none 0 0), .lit (.slice none 0 0), .lit (.slice none 0 0)]) (le_refl' s) hp
  generalize s.set p (.cells [.lit (.slice none 0 0), .lit (.slice none 0 0), .lit (.slice none 0 0)]) = s1 at *
  refine (any41 (hB.le hle1) htl).mono ?_
  rintro v t ⟨rfl, rfl⟩
  cases hbad : tl.any badT with
  | true =>
    simp only [hcond]
    rw [load_all (n := 3) rfl ep]
    simp only [bindO]
    refine store_all ep rfl rfl (by intro x hx; simp at hx; subst hx; rfl) ?_
    rw [load_all (n := 3) rfl (set_at _ _ _)]
    refine ⟨le_set_free _ hle1 hp, .inl ⟨fun h => ?_, _, _, _, rfl, rfl, rfl, rfl⟩⟩
    rw [h.1] at hbad; cases hbad
  | false =>
    simp only [hcond]
    refine (sorted43 (hA.le hle1) hl).mono ?_
    rintro v s9 ⟨hle9, h9⟩
    obtain ⟨okm, ms, A1, rfl, hm1, hm2, hmr⟩ : ∃ (okm : Bool) (ms : List Mem) (A1 : HV), v = .tup [A1, .lit (.bool okm)] ∧ (okm = true ↔ (l.map Mem.id).Nodup) ∧ (okm = true → ms.Perm l ∧ ms.Pairwise (fun x y => ltM x y = true)) ∧ Acc0 t s9 2 A1 ms.length (rows memC ms) ∧ ms.length ≤ 1000000 := by
      rcases h9 with ⟨h1, rfl⟩ | ⟨h1, l', h2, h3, A', rfl, h4⟩
      · exact ⟨false, [], nilV, rfl, ⟨fun h => (by cases h), fun h => absurd h h1⟩, fun h => (by cases h), .inl (Acc.nil _ _ _), by simp⟩
      · exact ⟨true, l', A', rfl, ⟨fun _ => h1, fun _ => rfl⟩, fun _ => ⟨h2, h3⟩, h4, by rw [h2.length_eq]; exact hl⟩
    obtain ⟨hmA, hml⟩ := hmr
    clear h9
    simp only [vExtract, List.getElem?_cons_zero, List.getElem?_cons_succ, bindO]
    refine (sorted45 ((hB.le hle1).le hle9) htl).mono ?_
    rintro v s13 ⟨hle13, h13⟩
    obtain ⟨okt, ts, A2, rfl, ht1, ht2, htA⟩ : ∃ (okt : Bool) (ts : List Top) (A2 : HV), v = .tup [A2, .lit (.bool okt)] ∧ (okt = true ↔ (tl.map Top.name).Nodup) ∧ (okt = true → ts.Perm tl ∧ ts.Pairwise (fun x y => ltT x y = true)) ∧ Acc0 s9 s13 2 A2 ts.length (rows topC ts) := by
      rcases h13 with ⟨h1, rfl⟩ | ⟨h1, l', h2, h3, A', rfl, h4⟩
      · exact ⟨false, [], nilV, rfl, ⟨fun h => (by cases h), fun h => absurd h h1⟩, fun h => (by cases h), .inl (Acc.nil _ _ _)⟩
      · exact ⟨true, l', A', rfl, ⟨fun _ => h1, fun _ => rfl⟩, fun _ => ⟨h2, h3⟩, h4⟩
    clear h13
    have ep9 := hle9 _ _ ep
    have ep13 := hle13 _ _ ep9
    obtain ⟨b, hbdef⟩ : ∃ b, s13.del p = b := ⟨_, rfl⟩
    have hbp : b p = none := by rw [← hbdef]; simp [HS.del]
    have hsb : HS.le s b := by rw [← hbdef]; exact le_del_free (HS.le.trans hle1 (HS.le.trans hle9 hle13)) hp
    have hb13 : HS.le b s13 := by rw [← hbdef]; exact le_del _ _
    have hmA13 : Acc0 t s13 2 A1 ms.length (rows memC ms) := by
      rcases hmA with h | ⟨h1, h2, q, h3, h4, h5⟩
      · exact .inl (h.le hle13)
      · exact .inr ⟨h1, h2, q, h3, h4, hle13 _ _ h5⟩
    have r1 : RowV b 2 A1 ms.length (rows memC ms) := by rw [← hbdef]; exact row_del hmA13 (by rw [ep]; exact fun h => by cases h)
    have r2 : RowV b 2 A2 ts.length (rows topC ts) := by rw [← hbdef]; exact row_del htA (by rw [ep9]; exact fun h => by cases h)
    have o1 := acc0_one hmA
    have o2 := acc0_one htA
    simp only [vExtract, List.getElem?_cons_zero, List.getElem?_cons_succ]
    rw [show vMk [(0, 1), (1, 1), (2, 1)] [.lit (.slice none 0 0), .lit (.slice none 0 0), .lit (.slice none 0 0)] [(0, A1), (1, A2)] = some (.agg [A1, A2, nilV]) by simp [vMk, hfill, o1.2, o2.2]]
    refine store_all ep13 rfl rfl (by intro x hx; simp at hx; rcases hx with rfl | rfl | rfl; exact o1.1; exact o2.1; rfl) ?_
    have hbt : HS.le b (s13.set p (.cells [A1, A2, nilV])) := le_set_free _ hb13 hbp
    have ept := set_at s13 p (.cells [A1, A2, nilV])
    generalize s13.set p (.cells [A1, A2, nilV]) = u0 at hbt ept ⊢
    rw [show vLenT (Try.prog.underlying 28) u0 A1 = some (.lit (.int .i64 (ms.length : Int))) from r1.len _ _]
    simp only
    refine HLoop.ghost (σ := HV × Nat) (fun g => [.lit (.int .i64 (g.2 : Int))]) (fun g u => g.2 ≤ ms.length ∧ u p = some (.cells [A1, A2, g.1]) ∧ HS.le b u ∧ accId g.1 ≠ some p ∧ Acc b u 2 g.1 g.2 (rows shC (mk0 (ms.take g.2)))) (fun g => ms.length - g.2) (nilV, 0) rfl ⟨Nat.zero_le _, ept, hbt, (by rintro ⟨⟩), Acc.nil _ _ _⟩ ?_
    rintro ⟨SH, i⟩ u K ⟨k1, k2, k3, k4, k5⟩ hK
    simp only at k1 k2 k3 k4 k5
    simp only [List.headD_cons, lss_i]
    by_cases hi : i < ms.length
    · obtain ⟨q, x1, y1⟩ := r1.at_ memC_len m0 hi
      simp only [hi, decide_true, hcond, x1, (y1 u k3).1]
      have hts : mk0 (ms.take (i + 1)) = mk0 (ms.take i) ++ [⟨(ms.getD i m0).id, nilV, []⟩] := by rw [take_succ' m0 ms hi]; simp [mk0]
      generalize ms.getD i m0 = m at *
      refine new_store rfl rfl (memC_one m) fun X hX => ?_
      have nXp := ne_new k2 hX
      have c1 : (u.set X (.cells (memC m))) p = some (.cells [A1, A2, SH]) := by rw [set_ne _ _ nXp]; exact k2
      have c2 := set_at u X (.cells (memC m))
      have c3 := k5.new (.cells (memC m)) hX
      have c4 := le_set_new (.cells (memC m)) k3 hX
      generalize u.set X (.cells (memC m)) = u1 at *
      have l1 : vLoad u1 (.ptr p (0 + 2)) 1 false = some SH := load_cell 2 1 c1
      have l2 : vLoad u1 (.ptr X (0 + 0)) 1 false = some (strV m.id) := load_cell 0 1 c2
      simp only [vField, l1, l2]
      rw [show vMk [(0, 1), (1, 1)] [.lit (.string .empty), .lit (.slice none 0 0)] [(0, strV m.id)] = some (.agg (shC ⟨m.id, nilV, []⟩)) by simp [vMk, hfill, strV, hc_string]; rfl]
      refine c3.app1 c4 (hc_agg _) rfl rfl ⟨by omega, by omega⟩ fun A' u2 g1 g2 g3 => ?_
      obtain ⟨d1, d2⟩ := g3 p _ k4 c1
      simp only [hStore, g1.hc, d1]
      refine ⟨by trivial, by simp, by simp [g1.one], ?_⟩
      rw [wlit1, add_i (show i + 1 < 9223372036854775808 by omega)]
      refine hK (A', i + 1) _ _ rfl ⟨hi, set_at _ _ _, le_set_free _ g2 hbp, d2, ?_⟩ (by show ms.length - (i + 1) < ms.length - i; omega)
      show Acc b _ 2 A' (i + 1) (rows shC (mk0 (ms.take (i + 1))))
      rw [hts, rows_app, rows_one]
      exact g1.put _ d2
    · obtain rfl : i = ms.length := by omega
      rw [List.take_length] at k5
      simp only [hi, decide_false, hcond]
      have hone3 : ∀ x ∈ [A1, A2, SH], hone x = true := by intro x hx; simp at hx; rcases hx with rfl | rfl | rfl; exact o1.1; exact o2.1; exact k5.one
      rw [load_all (n := 3) rfl k2]
      have hfin : ∀ (c : Bool), (c = true ↔ okA l tl) → postOpen l tl s (.tup [.agg [A1, A2, SH], .lit (.bool c)]) (u.set p (.cells [A1, A2, SH])) := fun c hc => by
        refine ⟨HS.le.trans hsb (le_set_free _ k3 hbp), ?_⟩
        cases c with
        | false => exact .inl ⟨fun h => (by cases hc.2 h), _, _, _, rfl, o1.1, o2.1, k5.one⟩
        | true =>
          have hok := hc.1 rfl
          obtain ⟨e1, e2⟩ := hm2 (hm1.2 hok.2.1)
          obtain ⟨e3, e4⟩ := ht2 (ht1.2 hok.2.2)
          refine .inr ⟨hok, ms, ts, A1, A2, SH, b, e1, e3, e2, e4, rfl, o1.1, o2.1, o2.2, hsb, le_set_free _ k3 hbp, r1, r2, ?_⟩
          rcases k5 with ⟨h1, h2, h3⟩ | ⟨q, f, h1, rfl, h3, h4, h5⟩
          · exact .inl ⟨List.eq_nil_of_length_eq_zero h3, h1⟩
          · refine .inr ⟨q, f, rfl, h1, by rw [set_ne _ _ (fun e => k4 (by rw [e]; rfl))]; exact h3, fun x hx => ?_, fun i j hij hj => ?_, fun x hx => ?_⟩
            · obtain ⟨m, -, rfl⟩ := List.mem_map.1 hx
              exact Acc.nil _ _ _
            · left
              rw [getD_get _ _ (show i < (mk0 ms).length by omega)]
              simp [mk0]; rfl
            · obtain ⟨m, -, rfl⟩ := List.mem_map.1 hx
              rintro ⟨⟩
      cases okm with
      | true =>
        simp only
        refine store_all k2 rfl rfl hone3 ?_
        rw [load_all (n := 3) rfl (set_at _ _ _)]
        exact hfin okt ⟨fun h => ⟨hbad, hm1.1 rfl, ht1.1 h⟩, fun h => ht1.2 h.2.2⟩
      | false =>
        simp only
        refine store_all k2 rfl rfl hone3 ?_
        rw [load_all (n := 3) rfl (set_at _ _ _)]
        exact hfin false ⟨fun h => (by cases h), fun h => (by have := hm1.2 h.2.1; cases this)⟩
end Go.Proofs.Ytkcgokkgefgcjaa.AS
end
section
namespace Go.Proofs.Ytkcgokkgefgcjaa.AS
open Go.Proofs.Ytkcgokkgefgcjaa.H Go.Proofs.Ytkcgokkgefgcjaa.A0
set_option linter.unusedVariables false
set_option linter.unusedSimpArgs false
set_option maxRecDepth 100000
abbrev DD := List (By × List Slot)
def d0 : By × List Slot := ([], [])
def giveD (D : DD) (i : Nat) (x : Slot) : DD := D.set i ((D.getD i d0).1, (D.getD i d0).2 ++ [x])
def giveA (D : DD) (l : List (Nat × Slot)) : DD := l.foldl (fun D p => giveD D p.1 p.2) D
theorem giveD_len (D : DD) (i : Nat) (x : Slot) : (giveD D i x).length = D.length := by simp [giveD]
theorem giveA_len : ∀ (l : List (Nat × Slot)) (D : DD), (giveA D l).length = D.length
  | [], D => rfl
  | p :: l, D => by
    show (giveA (giveD D p.1 p.2) l).length = _
    rw [giveA_len l, giveD_len]
theorem giveA_app (D : DD) (a c : List (Nat × Slot)) : giveA D (a ++ c) = giveA (giveA D a) c := List.foldl_append
def dOf (x : Sh) : By × List Slot := (x.who, x.sl)
/-- Shares, told by what they hold. -/
def SharesP (b u : HS) (SH : HV) (D : DD) : Prop := (D = [] ∧ SH = nilV) ∨ ∃ q f L, L.map dOf = D ∧ SH = .view q 0 2 D.length f ∧ Shares b u q L
theorem SharesP.base {b c u : HS} {SH : HV} {D : DD} (h : SharesP c u SH D) (hle : HS.le b c) : SharesP b u SH D := by
  rcases h with h | ⟨q, f, L, h1, h2, h3⟩
  · exact .inl h
  · exact .inr ⟨q, f, L, h1, h2, ⟨none_of_le hle h3.free, h3.at_, fun x hx => (h3.acc x hx).base hle, h3.apart, h3.self⟩⟩
theorem SharesP.le {b u v : HS} {SH : HV} {D : DD} (h : SharesP b u SH D) (hle : HS.le u v) : SharesP b v SH D := by
  rcases h with h | ⟨q, f, L, h1, h2, h3⟩
  · exact .inl h
  · exact .inr ⟨q, f, L, h1, h2, ⟨h3.free, hle _ _ h3.at_, fun x hx => (h3.acc x hx).le hle, h3.apart, h3.self⟩⟩
/-- What lies elsewhere may be counted to what lies still. -/
theorem SharesP.grow {b u : HS} {SH : HV} {D : DD} (h : SharesP b u SH D) {k : Nat} (hk : u k = none) (ob : HObj) : SharesP (b.set k ob) u SH D := by
  rcases h with h | ⟨q, f, L, h1, h2, h3⟩
  · exact .inl h
  · have hne : ∀ j o, u j = some o → j ≠ k := fun j o hj e => by rw [e, hk] at hj; cases hj
    refine .inr ⟨q, f, L, h1, h2, ⟨by rw [set_ne _ _ (hne _ _ h3.at_)]; exact h3.free, h3.at_, fun x hx => ?_, h3.apart, h3.self⟩⟩
    rcases h3.acc x hx with h | ⟨r, g, e1, e2, e3, e4, e5⟩
    · exact .inl h
    · exact .inr ⟨r, g, by rw [set_ne _ _ (hne _ _ e3)]; exact e1, e2, e3, e4, e5⟩
theorem le_set_both {b u : HS} (h : HS.le b u) {k : Nat} {ob : HObj} (hk : u k = some ob) : HS.le (b.set k ob) u := fun j o hj => by
  simp only [HS.set] at hj
  split at hj
  · rename_i e; rw [e, hk]; exact hj
  · exact h j o hj
theorem gives29P {b t : HS} {SH : HV} {D : DD} (h : SharesP b t SH D) (hb : HS.le b t) (mv tv : HV) {i : Nat} (hi : i < D.length) (x : Slot) (hx : (D.getD i d0).2.length < 1000000000000) :
    HC Try.prog 29 [.agg [mv, tv, SH], .lit (.int .i64 (i : Int)), .agg (slC x)] t (fun v t' => SharesP b t' SH (giveD D i x) ∧ HS.le b t') := by
  rcases h with ⟨rfl, rfl⟩ | ⟨q, f, L, rfl, rfl, h3⟩
  · simp at hi
  · have hi' : i < L.length := by simpa using hi
    have hg : (L.map dOf).getD i d0 = dOf (L.getD i x0) := by
      rw [List.getD, List.getElem?_map, List.getElem?_eq_getElem hi', getD_get _ _ hi']; rfl
    rw [hg] at hx
    refine (gives29 h3 hb mv tv (L.map dOf).length f (by simp) hi' x hx).mono ?_
    rintro v t' ⟨A, k1, k2, -⟩
    refine ⟨.inr ⟨q, f, _, ?_, by rw [giveD_len], k1⟩, k2⟩
    unfold giveD
    rw [hg, List.map_set]
    rfl
theorem sharesP_start {b u : HS} {SH : HV} {ms : List Mem} (h : (ms = [] ∧ SH = nilV) ∨ ∃ q f, SH = .view q 0 2 ms.length f ∧ Shares b u q (mk0 ms)) : SharesP b u SH (ms.map fun m => (m.id, [])) := by
  rcases h with ⟨rfl, h⟩ | ⟨q, f, h1, h2⟩
  · exact .inl ⟨rfl, h⟩
  · refine .inr ⟨q, f, mk0 ms, ?_, by rw [List.length_map]; exact h1, h2⟩
    simp [mk0, dOf]
/-- Who reads a topic. -/
def whoOf (ms : List Mem) (t : Top) (n : Nat) : List Nat := (List.range n).filter fun i => ((ms.getD i m0).tp.getD []).contains t.name
theorem whoOf_succ (ms : List Mem) (t : Top) (n : Nat) : whoOf ms t (n + 1) = whoOf ms t n ++ (if ((ms.getD n m0).tp.getD []).contains t.name then [n] else []) := by
  unfold whoOf
  rw [List.range_succ, List.filter_append]
  congr 1
  generalize hf : (fun i => ((ms.getD i m0).tp.getD []).contains t.name) = p
  have hp : ((ms.getD n m0).tp.getD []).contains t.name = p n := by rw [← hf]
  rw [hp]
  cases h : p n <;> simp [h]
theorem whoOf_len (ms : List Mem) (t : Top) (n : Nat) : (whoOf ms t n).length ≤ n := by
  have := List.length_filter_le (fun i => ((ms.getD i m0).tp.getD []).contains t.name) (List.range n)
  simpa [whoOf] using this
theorem whoOf_lt (ms : List Mem) (t : Top) (n : Nat) : ∀ i ∈ whoOf ms t n, i < n := fun i hi => by
  have := (List.mem_filter.1 hi).1
  simpa using this
/-- How many parts the k-th of n gets, and where its parts begin. -/
def cnt (parts n k : Nat) : Nat := parts / n + if k < parts % n then 1 else 0
def cum (parts n : Nat) : Nat → Nat
  | 0 => 0
  | k + 1 => cum parts n k + cnt parts n k
def asgK (nm : By) (parts : Nat) (who : List Nat) (k j : Nat) : List (Nat × Slot) := (List.range j).map fun x => (who.getD k 0, (nm, ((cum parts who.length k + x : Nat) : Int)))
def asgT (nm : By) (parts : Nat) (who : List Nat) (k : Nat) : List (Nat × Slot) := (List.range k).flatMap fun k => asgK nm parts who k (cnt parts who.length k)
theorem asgT_succ (nm : By) (parts : Nat) (who : List Nat) (k : Nat) : asgT nm parts who (k + 1) = asgT nm parts who k ++ asgK nm parts who k (cnt parts who.length k) := by
  simp [asgT, List.range_succ]
theorem asgK_succ (nm : By) (parts : Nat) (who : List Nat) (k j : Nat) : asgK nm parts who k (j + 1) = asgK nm parts who k j ++ [(who.getD k 0, (nm, ((cum parts who.length k + j : Nat) : Int)))] := by
  simp [asgK, List.range_succ]
/-- What Range gives. -/
def rangeA (ms : List Mem) (ts : List Top) : List (Nat × Slot) := ts.flatMap fun t => asgT t.name t.parts.toNat (whoOf ms t ms.length) (whoOf ms t ms.length).length
theorem cum_eq (parts n : Nat) : ∀ k, cum parts n k = k * (parts / n) + min k (parts % n)
  | 0 => by simp [cum]
  | k + 1 => by
    rw [cum, cum_eq parts n k, cnt, Nat.succ_mul]
    split <;> omega
theorem cum_le {parts n k : Nat} (hk : k ≤ n) : cum parts n k ≤ parts := by
  rw [cum_eq]
  have h1 := Nat.mul_le_mul_right (parts / n) hk
  have h2 := Nat.div_add_mod parts n
  have h3 : min k (parts % n) ≤ parts % n := Nat.min_le_right _ _
  omega
theorem asgK_len (nm : By) (parts : Nat) (who : List Nat) (k j : Nat) : (asgK nm parts who k j).length = j := by simp [asgK]
theorem asgT_len (nm : By) (parts : Nat) (who : List Nat) : ∀ k, (asgT nm parts who k).length = cum parts who.length k
  | 0 => rfl
  | k + 1 => by rw [asgT_succ, List.length_append, asgT_len nm parts who k, asgK_len, cum]
theorem giveD_sl (D : DD) (i : Nat) (x : Slot) (j : Nat) : ((giveD D i x).getD j d0).2.length ≤ (D.getD j d0).2.length + 1 := by
  unfold giveD
  simp only [List.getD, List.getElem?_set]
  by_cases h : i = j
  · subst h
    by_cases hi : i < D.length
    · simp [hi]
    · simp [hi]
  · simp [h]
theorem giveA_sl : ∀ (l : List (Nat × Slot)) (D : DD) (j : Nat), ((giveA D l).getD j d0).2.length ≤ (D.getD j d0).2.length + l.length
  | [], D, j => Nat.le_refl _
  | p :: l, D, j => by
    have h1 := giveA_sl l (giveD D p.1 p.2) j
    have h2 := giveD_sl D p.1 p.2 j
    show ((giveA (giveD D p.1 p.2) l).getD j d0).2.length ≤ _
    rw [List.length_cons]
    omega
theorem rangeA_len (ms : List Mem) : ∀ (ts : List Top), (∀ t ∈ ts, t.parts ≤ 1000) → (rangeA ms ts).length ≤ 1000 * ts.length
  | [], _ => by simp [rangeA]
  | t :: ts, h => by
    have h1 := rangeA_len ms ts fun x hx => h x (List.mem_cons_of_mem _ hx)
    have h2 := h t List.mem_cons_self
    have h3 : (rangeA ms (t :: ts)).length = (asgT t.name t.parts.toNat (whoOf ms t ms.length) (whoOf ms t ms.length).length).length + (rangeA ms ts).length := by simp [rangeA]
    rw [h3, asgT_len, List.length_cons]
    have h4 := cum_le (parts := t.parts.toNat) (Nat.le_refl (whoOf ms t ms.length).length)
    omega
theorem rangeA_take (ms : List Mem) (ts : List Top) {i : Nat} (hi : i < ts.length) : rangeA ms (ts.take (i + 1)) = rangeA ms (ts.take i) ++ asgT (ts.getD i t0).name (ts.getD i t0).parts.toNat (whoOf ms (ts.getD i t0) ms.length) (whoOf ms (ts.getD i t0) ms.length).length := by
  rw [take_succ' t0 ts hi]
  simp [rangeA]
end Go.Proofs.Ytkcgokkgefgcjaa.AS
end
section
namespace Go.Proofs.Ytkcgokkgefgcjaa.AS
open Go.Proofs.Ytkcgokkgefgcjaa.H Go.Proofs.Ytkcgokkgefgcjaa.A0
set_option linter.unusedVariables false
set_option linter.unusedSimpArgs false
set_option maxRecDepth 100000
def intC (n : Nat) : List HV := [.lit (.int .i64 (n : Int))]
def postRange (rg : List Mem → List Top → List (Nat × Slot)) (l : List Mem) (tl : List Top) (s : HS) (v : HV) (u : HS) : Prop :=
  HS.le s u ∧ ((¬ okA l tl ∧ v = .tup [nilV, .lit (.int .i64 1)]) ∨ (okA l tl ∧ ∃ ms ts SH, ms.Perm l ∧ ts.Perm tl ∧ ms.Pairwise (fun x y => ltM x y = true) ∧ ts.Pairwise (fun x y => ltT x y = true) ∧ v = .tup [SH, .lit (.int .i64 0)] ∧ SharesP s u SH (giveA (ms.map fun m => (m.id, [])) (rg ms ts))))
theorem hone3 {x y z : HV} (hx : hone x = true) (hy : hone y = true) (hz : hone z = true) : ∀ w ∈ [x, y, z], hone w = true := by
  intro w hw
  simp at hw
  rcases hw with rfl | rfl | rfl <;> assumption
theorem parts_ok {tl : List Top} (h : tl.any badT = false) : ∀ t ∈ tl, 0 ≤ t.parts ∧ t.parts ≤ 1000 := fun t ht => by
  have := List.any_eq_false.1 h t ht
  simp [badT] at this
  omega
theorem sharesP_one {b u : HS} {SH : HV} {D : DD} (h : SharesP b u SH D) : hone SH = true ∧ hcells SH = some [SH] := by
  rcases h with ⟨-, rfl⟩ | ⟨q, f, L, -, rfl, -⟩ <;> exact ⟨rfl, rfl⟩
theorem quo_i {a n : Nat} (hn : 0 < n) (ha : a < 9223372036854775808) : vBin .quo (.lit (.int .i64 (a : Int))) (.lit (.int .i64 (n : Int))) = some (.lit (.int .i64 ((a / n : Nat) : Int))) := by
  have h0 : ¬ (n : Int) = 0 := by omega
  have h1 : a / n ≤ a := Nat.div_le_self a n
  have h2 : (a : Int).tdiv (n : Int) = ((a / n : Nat) : Int) := (Int.ofNat_tdiv a n).symm
  simp only [vBin, if_true, if_neg h0]
  rw [h2]
  generalize a / n = c at h1 ⊢
  rw [w64 (by omega) (by omega)]
theorem rem_i {a n : Nat} (hn : 0 < n) : vBin .rem (.lit (.int .i64 (a : Int))) (.lit (.int .i64 (n : Int))) = some (.lit (.int .i64 ((a % n : Nat) : Int))) := by
  have h0 : ¬ (n : Int) = 0 := by omega
  have h2 : (a : Int).tmod (n : Int) = ((a % n : Nat) : Int) := (Int.ofNat_tmod a n).symm
  simp only [vBin, if_true, if_neg h0, h2]
theorem range13 {s : HS} {A B : HV} {l : List Mem} {tl : List Top} (hA : RowV s 2 A l.length (rows memC l)) (hB : RowV s 2 B tl.length (rows topC tl)) (hl : l.length ≤ 1000000) (htl : tl.length ≤ 1000000) (htp : ∀ m ∈ l, (m.tp.getD []).length ≤ 1000000000) :
    HC Try.prog 13 [A, B] s (fun v u => postRange rangeA l tl s v u) := by
  refine HC13 ?_
  unfold c13
  refine (open27 hA hB hl htl).mono ?_
  rintro v s2 ⟨hle, hpost⟩
  rcases hpost with ⟨hbad, x, y, z, rfl, ox, oy, oz⟩ | ⟨hok, ms, ts, A1, A2, SH, b, pm, pt, sm, st, rfl, o1, o2, hc2, hsb, hbu, r1, r2, hsh⟩
  · simp only [vExtract, List.getElem?_cons_zero, List.getElem?_cons_succ, bindO]
    refine new_store rfl rfl (hone3 ox oy oz) fun p hp => ?_
    simp only [vUn, Bool.not_false, hcond]
    exact ⟨le_set_new _ hle hp, .inl ⟨hbad, rfl⟩⟩
  · have hshP := sharesP_start hsh
    have hmlen : ms.length = l.length := pm.length_eq
    have htlen : ts.length = tl.length := pt.length_eq
    have hparts : ∀ t ∈ ts, 0 ≤ t.parts ∧ t.parts ≤ 1000 := fun t ht => parts_ok hok.1 t (pt.mem_iff.1 ht)
    simp only [vExtract, List.getElem?_cons_zero, List.getElem?_cons_succ, bindO]
    refine new_store rfl rfl (hone3 o1 o2 (sharesP_one hshP).1) fun p hp => ?_
    have hP0 := (hshP.grow hp (.cells [A1, A2, SH])).le (le_set_new (.cells [A1, A2, SH]) (le_refl' s2) hp)
    have hbb : HS.le b (b.set p (.cells [A1, A2, SH])) := le_set_new _ (le_refl' b) (none_of_le hbu hp)
    have hbu0 : HS.le (b.set p (.cells [A1, A2, SH])) (s2.set p (.cells [A1, A2, SH])) := le_set_both (le_set_new _ hbu hp) (set_at _ _ _)
    have hp0 := set_at b p (.cells [A1, A2, SH])
    obtain ⟨bb, hbbe⟩ : ∃ bb, b.set p (.cells [A1, A2, SH]) = bb := ⟨_, rfl⟩
    rw [hbbe] at hP0 hbb hbu0 hp0
    generalize s2.set p (.cells [A1, A2, SH]) = u0 at *
    have r1' := r1.le hbb
    have r2' := r2.le hbb
    have hsbb := HS.le.trans hsb hbb
    clear hbbe hshP hsh hbu hp hle r1 r2
    have ldp : ∀ u, HS.le bb u → ∀ j, vLoad u (.ptr p (0 + j)) 1 false = [A1, A2, SH][j]? := fun u hu j => by rw [Nat.zero_add]; exact load_cell j 1 (hu _ _ hp0)
    simp only [vUn, Bool.not_true, hcond, vField, ldp u0 hbu0 1, List.getElem?_cons_zero, List.getElem?_cons_succ]
    rw [show vLenT (Try.prog.underlying 37) u0 A2 = some (.lit (.int .i64 (ts.length : Int))) from r2'.len _ _]
    simp only
    refine HLoop.ghost (σ := Nat) (fun i => [.lit (.int .i64 (i : Int))]) (fun i u => i ≤ ts.length ∧ HS.le bb u ∧ SharesP bb u SH (giveA (ms.map fun m => (m.id, [])) (rangeA ms (ts.take i)))) (fun i => ts.length - i) 0 rfl ⟨Nat.zero_le _, hbu0, by rw [List.take_zero]; exact hP0⟩ ?_
    rintro i u K ⟨hi, hu, hPu⟩ hK
    simp only [List.headD_cons, lss_i]
    by_cases hlt : i < ts.length
    · obtain ⟨qt, x1, y1⟩ := r2'.at_ topC_len t0 hlt
      simp only [hlt, decide_true, x1, (y1 u hu).1]
      have htake := rangeA_take ms ts hlt
      have hrl := rangeA_len ms (ts.take i) fun t ht => (hparts t (List.mem_of_mem_take ht)).2
      rw [List.length_take, Nat.min_eq_left hi] at hrl
      obtain ⟨tp0, tp1⟩ := hparts (ts.getD i t0) (by rw [getD_get _ _ hlt]; exact List.getElem_mem hlt)
      generalize ts.getD i t0 = T at *
      obtain ⟨nm, pz⟩ := T
      obtain ⟨np, rfl⟩ : ∃ np : Nat, pz = (np : Int) := ⟨pz.toNat, by simp only at tp0; omega⟩
      simp only [Int.toNat_natCast] at htake
      simp only at tp1
      refine new_store rfl rfl (topC_one _) fun X hX => ?_
      have hPX := (hPu.grow hX (.cells (topC ⟨nm, np⟩))).le (le_set_new (.cells (topC ⟨nm, np⟩)) (le_refl' u) hX)
      have hXb : HS.le bb (bb.set X (.cells (topC ⟨nm, np⟩))) := le_set_new _ (le_refl' bb) (none_of_le hu hX)
      have huX : HS.le (bb.set X (.cells (topC ⟨nm, np⟩))) (u.set X (.cells (topC ⟨nm, np⟩))) := le_set_both (le_set_new _ hu hX) (set_at _ _ _)
      have hX0 := set_at bb X (.cells (topC ⟨nm, np⟩))
      generalize u.set X (.cells (topC ⟨nm, np⟩)) = u1 at *
      generalize bb.set X (.cells (topC ⟨nm, np⟩)) = bX at *
      have ldX : ∀ w, HS.le bX w → ∀ j, vLoad w (.ptr X (0 + j)) 1 false = (topC ⟨nm, np⟩)[j]? := fun w hw j => by rw [Nat.zero_add]; exact load_cell j 1 (hw _ _ hX0)
      have ldp1 : ∀ w, HS.le bX w → ∀ j, vLoad w (.ptr p (0 + j)) 1 false = [A1, A2, SH][j]? := fun w hw j => ldp w (HS.le.trans hXb hw) j
      simp only [ldp1 u1 huX 0, List.getElem?_cons_zero]
      rw [show vLenT (Try.prog.underlying 28) u1 A1 = some (.lit (.int .i64 (ms.length : Int))) from r1'.len _ _]
      simp only
      have hfinT : ∀ w, HS.le bX w → SharesP bX w SH (giveA (ms.map fun m => (m.id, [])) (rangeA ms (ts.take (i + 1)))) → K [.lit (.int .i64 ((i + 1 : Nat) : Int))] w := fun w hw hP =>
        hK (i + 1) _ _ rfl ⟨hlt, HS.le.trans hXb hw, hP.base hXb⟩ (by omega)
      refine HLoop.ghost (σ := HV × Nat) (fun g => [g.1, .lit (.int .i64 (g.2 : Int))]) (fun g w => g.2 ≤ ms.length ∧ HS.le u1 w ∧ Acc u1 w 1 g.1 (whoOf ms ⟨nm, np⟩ g.2).length (rows intC (whoOf ms ⟨nm, np⟩ g.2))) (fun g => ms.length - g.2) (nilV, 0) rfl ⟨Nat.zero_le _, le_refl' u1, Acc.nil _ _ _⟩ ?_
      rintro ⟨W, k⟩ w K24 ⟨hk, hw, hW⟩ hK24
      simp only at hk hw hW
      simp only [List.headD_cons, List.tail_cons, lss_i]
      by_cases hkm : k < ms.length
      · obtain ⟨qm, x2, y2⟩ := r1'.at_ memC_len m0 hkm
        have hbw : HS.le bb w := HS.le.trans hXb (HS.le.trans huX hw)
        have hsucc := whoOf_succ ms ⟨nm, np⟩ k
        have hwl := whoOf_len ms ⟨nm, np⟩ k
        have hmt := htp (ms.getD k m0) (pm.mem_iff.1 (by rw [getD_get _ _ hkm]; exact List.getElem_mem hkm))
        simp only [hkm, decide_true, x2, (y2 w hbw).1]
        generalize ms.getD k m0 = m at *
        refine Join.of (fun xs w' => ∃ W', xs = [W'] ∧ HS.le u1 w' ∧ Acc u1 w' 1 W' (whoOf ms ⟨nm, np⟩ (k + 1)).length (rows intC (whoOf ms ⟨nm, np⟩ (k + 1)))) ?_ ?_
        · rintro _ w' ⟨W', rfl, g1, g2⟩
          simp only [List.headD_cons]
          rw [wlit1, add_i (show k + 1 < 9223372036854775808 by omega)]
          exact hK24 (W', k + 1) _ _ rfl ⟨hkm, g1, g2⟩ (by show ms.length - (k + 1) < ms.length - k; omega)
        · intro K28 hK28
          refine new_store rfl rfl (memC_one m) fun Y hY => ?_
          have hWY := hW.new (.cells (memC m)) hY
          have hwY := le_set_new (.cells (memC m)) hw hY
          have hY0 := set_at w Y (.cells (memC m))
          generalize w.set Y (.cells (memC m)) = w1 at *
          have lY : vLoad w1 (.ptr Y (0 + 1)) 1 false = some (rowV strC 1 m.tp) := load_cell 1 1 hY0
          have lX : vLoad w1 (.ptr X (0 + 0)) 1 false = some (strV nm) := ldX w1 (HS.le.trans huX hwY) 0
          simp only [lY, lX]
          refine (contains28 m.tp nm w1 hmt).mono ?_
          rintro v w2 ⟨rfl, rfl⟩
          cases hc : (m.tp.getD []).contains nm with
          | false =>
            simp only
            rw [hc] at hsucc
            simp only [Bool.false_eq_true, if_false, List.append_nil] at hsucc
            exact hK28 _ _ ⟨W, rfl, hwY, by rw [hsucc]; exact hWY⟩
          | true =>
            simp only
            rw [hc] at hsucc
            simp only [if_true] at hsucc
            refine hWY.app1 hwY (vs := intC k) rfl rfl rfl ⟨by omega, by omega⟩ fun W' w3 g1 g2 g3 => ?_
            refine hK28 _ _ ⟨W', rfl, g2, ?_⟩
            rw [hsucc, rows_app, rows_one, List.length_append]
            exact g1
      · obtain rfl : k = ms.length := by omega
        have hwl := whoOf_len ms ⟨nm, np⟩ ms.length
        have hwlt := whoOf_lt ms ⟨nm, np⟩ ms.length
        obtain ⟨who, hwho⟩ : ∃ who, whoOf ms ⟨nm, np⟩ ms.length = who := ⟨_, rfl⟩
        rw [hwho] at hW hwl hwlt htake
        obtain ⟨D0, hD0⟩ : ∃ D0, giveA (ms.map fun m => (m.id, [])) (rangeA ms (ts.take i)) = D0 := ⟨_, rfl⟩
        have hD0l : D0.length = ms.length := by rw [← hD0, giveA_len, List.length_map]
        have hD0s : ∀ j, (D0.getD j d0).2.length ≤ 1000 * i := fun j => by
          have h1 := giveA_sl (rangeA ms (ts.take i)) (ms.map fun m => (m.id, [])) j
          have h2 : (((ms.map fun m => ((m.id, []) : By × List Slot)).getD j d0).2).length = 0 := by
            simp only [List.getD, List.getElem?_map]
            cases ms[j]? <;> rfl
          rw [hD0] at h1
          omega
        rw [hD0] at hPX
        rw [htake, giveA_app, hD0] at hfinT
        have hcx : HS.le bX w := HS.le.trans huX hw
        obtain ⟨bW, hbW1, hbW2, hPW, hWl⟩ : ∃ bW, HS.le bX bW ∧ HS.le bW w ∧ SharesP bW w SH D0 ∧ RowV bW 1 W who.length (rows intC who) := by
          rcases hW with ⟨h1, h2, h3⟩ | ⟨q, f, h1, rfl, h3, h4, h5⟩
          · exact ⟨bX, le_refl' _, hcx, hPX.le hw, .inl ⟨h1, h2, h3⟩⟩
          · exact ⟨bX.set q (.cells (rows intC who)), le_set_new _ (le_refl' _) (none_of_le huX h1), le_set_both hcx h3, (hPX.grow h1 _).le hw, .inr ⟨q, f, rfl, set_at _ _ _, h4⟩⟩
        clear hW hPX
        simp only [hkm, decide_false]
        have hvl : ∀ v, vLenT (Try.prog.underlying 71) v W = some (.lit (.int .i64 (who.length : Int))) := fun v => hWl.len _ _
        simp only [hvl]
        refine HLoop.ghost (σ := Nat) (fun k => [.lit (.int .i64 ((cum np who.length k : Nat) : Int)), .lit (.int .i64 (k : Int))]) (fun k v => k ≤ who.length ∧ HS.le bW v ∧ SharesP bW v SH (giveA D0 (asgT nm np who k))) (fun k => who.length - k) 0 rfl ⟨Nat.zero_le _, hbW2, hPW⟩ ?_
        rintro k v K48 ⟨hk1, hv, hPv⟩ hK48
        simp only [List.headD_cons, List.tail_cons, lss_i]
        by_cases hkw : k < who.length
        · have hXv : HS.le bX v := HS.le.trans hbW1 hv
          obtain ⟨qw, x3, y3⟩ := hWl.at_ (enc := intC) (sz := 1) (fun _ => rfl) 0 hkw
          have l53 : vLoad v (.ptr qw (k * 1)) 1 false = some (.lit (.int .i64 ((who.getD k 0 : Nat) : Int))) := by have := (y3 v hv).2 0 (Nat.lt_succ_self 0) 1; rw [Nat.add_zero] at this; exact this
          have lP : ∀ w, HS.le bX w → vLoad w (.ptr X (0 + 1)) 1 false = some (.lit (.int .i64 (np : Int))) := fun w hw => ldX w hw 1
          have lN : ∀ w, HS.le bX w → vLoad w (.ptr X (0 + 0)) 1 false = some (strV nm) := fun w hw => ldX w hw 0
          have hnpb : np ≤ 1000 := by omega
          have hdv : np / who.length ≤ np := Nat.div_le_self _ _
          simp only [hkw, decide_true, x3, l53, lP v hXv, quo_i (show 0 < who.length by omega) (show np < 9223372036854775808 by omega)]
          have hwk : who.getD k 0 < ms.length := hwlt _ (by rw [getD_get _ _ hkw]; exact List.getElem_mem hkw)
          have hcn := cum_le (parts := np) (show k + 1 ≤ who.length from hkw)
          have hcs : cum np who.length (k + 1) = cum np who.length k + cnt np who.length k := rfl
          refine Join.of (fun xs w' => w' = v ∧ xs = [.lit (.int .i64 ((cnt np who.length k : Nat) : Int))]) ?_ ?_
          rotate_left
          · intro K58 hK58
            simp only [rem_i (show 0 < who.length by omega), lss_i]
            by_cases hr : k < np % who.length
            · simp only [hr, decide_true]
              rw [wlit1, add_i (by omega)]
              exact hK58 _ _ ⟨rfl, by rw [cnt, if_pos hr]⟩
            · simp only [hr, decide_false]
              exact hK58 _ _ ⟨rfl, by rw [cnt, if_neg hr]; rfl⟩
          rintro _ w' ⟨rfl, rfl⟩
          simp only [List.headD_cons]
          refine HLoop.ghost (σ := Nat) (fun j => [.lit (.int .i64 ((cum np who.length k + j : Nat) : Int)), .lit (.int .i64 (j : Int))]) (fun j v => j ≤ cnt np who.length k ∧ HS.le bW v ∧ SharesP bW v SH (giveA (giveA D0 (asgT nm np who k)) (asgK nm np who k j))) (fun j => cnt np who.length k - j) 0 rfl ⟨Nat.zero_le _, hv, hPv⟩ ?_
          rintro j v2 K67 ⟨hj, hv2, hP2⟩ hK67
          simp only [List.headD_cons, List.tail_cons, lss_i]
          by_cases hjc : j < cnt np who.length k
          · have hX2 : HS.le bX v2 := HS.le.trans hbW1 hv2
            have lA : vLoad v2 (.ptr p 0) 3 true = some (.agg [A1, A2, SH]) := load_all rfl (HS.le.trans hXb hX2 _ _ hp0)
            simp only [hjc, decide_true, lA, lN v2 hX2]
            rw [show ∀ n : Int, vMk [(0, 1), (1, 1)] [.lit (.string .empty), .lit (.int .i64 0)] [(0, strV nm), (1, .lit (.int .i64 n))] = some (.agg (slC (nm, n))) from fun n => by simp [vMk, hfill, strV, hc_string, hc_int]; rfl]
            simp only
            refine (gives29P hP2 hv2 A1 A2 (i := who.getD k 0) (by rw [giveA_len, giveA_len, hD0l]; exact hwk) _ ?_).mono ?_
            · have h1 := giveA_sl (asgK nm np who k j) (giveA D0 (asgT nm np who k)) (who.getD k 0)
              have h2 := giveA_sl (asgT nm np who k) D0 (who.getD k 0)
              have h3 := hD0s (who.getD k 0)
              rw [asgK_len] at h1
              rw [asgT_len] at h2
              omega
            · rintro v' v3 ⟨hP3, hv3⟩
              rw [wlit1, add_i (by omega), add_i (by omega)]
              refine hK67 (j + 1) _ _ (by show _ = [HV.lit (.int .i64 ((cum np who.length k + (j + 1) : Nat) : Int)), _]; rw [Nat.add_assoc]) ⟨hjc, hv3, ?_⟩ (by omega)
              rw [asgK_succ, giveA_app]
              exact hP3
          · obtain rfl : j = cnt np who.length k := by omega
            simp only [hjc, decide_false]
            rw [wlit1, add_i (by omega)]
            refine hK48 (k + 1) _ _ rfl ⟨hkw, hv2, ?_⟩ (by omega)
            rw [asgT_succ, giveA_app]
            exact hP2
        · obtain rfl : k = who.length := by omega
          simp only [hkw, decide_false]
          rw [wlit1, add_i (show i + 1 < 9223372036854775808 by omega)]
          exact hfinT v (HS.le.trans hbW1 hv) (hPv.base hbW1)
    · obtain rfl : i = ts.length := by omega
      rw [List.take_length] at hPu
      simp only [hlt, decide_false, ldp u hu 2, List.getElem?_cons_zero, List.getElem?_cons_succ]
      exact ⟨HS.le.trans hsbb hu, .inr ⟨hok, ms, ts, SH, pm, pt, sm, st, rfl, hPu.base hsbb⟩⟩
end Go.Proofs.Ytkcgokkgefgcjaa.AS
end
section
namespace Go.Proofs.Ytkcgokkgefgcjaa.A1
open Go.Proofs.Ytkcgokkgefgcjaa.H
set_option linter.unusedVariables false
set_option maxRecDepth 100000
/-- cordwain/assign.Slots$1 -/
def c36 (a0 a1 : HV) (s : HS) (Q : HV → HS → Prop) : Prop :=
  bindO (vLoad s a1 1 false) fun x1 => HC Try.prog 37 [x1] s (fun r2 s3 => HC Try.prog 38 [r2, (.func (.func 39) [])] s3 (fun r4 s5 => JoinU (fun K6 => bindO (vLenT (Try.prog.underlying 37) s5 r2) fun x9 => K6 [r2, x9, (.lit (.int .i64 0))] s5) (fun y7 s8 => HLoop (fun y11 s12 K10 => bindO (vBin .lss (y11.headD .junk) (y7.tail.headD .junk)) fun x13 => hcond x13 (JoinU (fun K14 => bindO (vIdx 2 (y7.headD .junk) (y11.headD .junk)) fun x17 => bindO (vLoad s12 x17 2 true) fun x18 => hNew s12 (.cells [.lit (.string .empty), .lit (.int .i64 0)]) (fun id => .ptr id 0) (fun x19 s20 => hStore s20 x19 x18 2 (fun s21 => K14 [x19] s21))) (fun y15 s16 => bindO (vField 1 (y15.headD .junk)) fun x22 => bindO (vLoad s16 x22 1 false) fun x23 => bindO (hfold vMax2 x23 [(.lit (.int .i64 0))]) fun x24 => HLoop (fun y26 s27 K25 => bindO (vBin .lss (y26.headD .junk) x24) fun x28 => hcond x28 (bindO (vField 0 (y15.headD .junk)) fun x29 => bindO (vLoad s27 x29 1 false) fun x30 => bindO (vMk [(0, 1), (1, 1)] [.lit (.string .empty), .lit (.int .i64 0)] [(0, x30), (1, (y26.headD .junk))]) fun x31 => hcall Try.prog a0 [x31] s27 (fun r32 s33 => bindO (vUn .not r32) fun x34 => hcond x34 (Q (.tup []) s33) (bindO (vBin .add (y26.headD .junk) (.lit (.int .i64 1))) fun x35 => K25 [x35] s33))) (bindO (vBin .add (y11.headD .junk) (.lit (.int .i64 1))) fun x36 => K10 [x36] s27)) [(.lit (.int .i64 0))] s16)) (Q (.tup []) s12)) [(y7.tail.tail.headD .junk)] s8)))
theorem c36_eq (a0 a1 : HV) (s : HS) (Q : HV → HS → Prop) : (match Try.f36.body with | some c => hwp Try.prog (fun p => if p = 7 then some [1000000, 11, 12, 13] else if p = 30 then some [13] else if p = 972 then some [1000000, 5] else if p = 7782 then some [20] else none) false 1 c (hretQ Try.prog Try.f36.results.toList Q) (([a0, a1] : List HV) ++ List.replicate (Try.f36.ntmps - 2) (.lit undef)) s | none => False) = c36 a0 a1 s Q := by kernel_rfl
theorem HC36 {a0 a1 : HV} {s : HS} {Q : HV → HS → Prop} (h : c36 a0 a1 s Q) : HC Try.prog 36 [a0, a1] s Q := HC_by Try.func36 (by have := c36_eq a0 a1 s Q; exact this.mpr h)
end Go.Proofs.Ytkcgokkgefgcjaa.A1
end
section
namespace Go.Proofs.Ytkcgokkgefgcjaa.H
open Go.RowKit Go.MapKept
set_option linter.unusedVariables false
set_option linter.unusedSimpArgs false
theorem UpL.frzP {s s' : HS} {id : Nat} {cs : List HV} (hs : s id = some (.cells cs)) (hle : HS.le s' s) (hid : s' id = none) (ys zs : List HV) : UpL (ys ++ .ptr id 0 :: zs) s (ys ++ .elt cs 0 :: zs) s' := by
  intro m w cvs hR hr
  obtain ⟨m', h1, h2, h3⟩ := freeze_m hR hs (s' := s') fun k o hk => ⟨(by rintro rfl; rw [hid] at hk; cases hk), o, hle k o hk, Or.inl rfl⟩
  refine ⟨m', h1, h2, by simpa using hr.1, fun j x hj => ?_⟩
  by_cases hlt : j < ys.length
  · rw [List.getElem?_append_left hlt] at hj
    exact (hr.2 j x (by rw [List.getElem?_append_left hlt]; exact hj)).mono h1
  · rw [List.getElem?_append_right (by omega)] at hj
    have hr2 := hr.2 j
    rw [List.getElem?_append_right (by omega)] at hr2
    obtain ⟨k, hk⟩ : ∃ k, k = j - ys.length := ⟨_, rfl⟩
    rw [← hk] at hj hr2
    cases k with
    | succ k => exact (hr2 x hj).mono h1
    | zero =>
      simp at hj
      subst hj
      have hp := hr2 (.ptr id 0) rfl
      generalize cvs.getD j undef = v at hp ⊢
      cases hp with
      | ptr _ _ l hl =>
        obtain ⟨ho, c, t, fr, o1, o2, o3, o4, o5⟩ := hR.objs id _ l hs hl
        by_cases hn : cs = []
        · subst hn
          exact .elt [] 0 l.b l.base (fun _ => undef) ho (fun j hj => by simp at hj) (fun j x hj => by simp at hj)
        · have hpos : 0 < cs.length := List.length_pos_iff.2 hn
          have hv : Rep m (.view id 0 1 cs.length false) (.slice (some ⟨l.b, l.base + 0, none⟩) cs.length (l.lim - l.base)) :=
            .view id 0 1 cs.length false (l.lim - l.base) l hl (by omega) (fun h => by cases h) (by omega) (fun _ => by omega)
          have hL := h3 0 1 cs.length false _ (by omega) hv
          rw [List.drop_zero, Nat.mul_one, List.take_length] at hL
          generalize hq : cs.length = n at hL hpos
          cases hL with
          | list0 => omega
          | list _ _ _ _ _ _ _ f _ _ _ _ g1 g2 => exact .elt cs 0 l.b (l.base + 0) f ho g1 g2
end Go.Proofs.Ytkcgokkgefgcjaa.H
end
section
namespace Go.Proofs.Ytkcgokkgefgcjaa.AS
open Go.Proofs.Ytkcgokkgefgcjaa.H Go.Proofs.Ytkcgokkgefgcjaa.A0
set_option linter.unusedVariables false
set_option linter.unusedSimpArgs false
set_option maxRecDepth 100000
theorem acc0_upAtL {b t : HS} {sz : Nat} {A : HV} {n : Nat} {cs : List HV} (h : Acc0 b t sz A n cs) (hb : HS.le b t) (ys zs : List HV) (hy : ∀ q cs, ys.map (frz2 q cs) = ys) (hz : ∀ q cs, zs.map (frz2 q cs) = zs) : UpL (ys ++ A :: zs) t (ys ++ .list sz n cs false :: zs) b := by
  rcases h with h | ⟨rfl, rfl, q, h3, rfl, h4⟩
  · exact h.upAtL hb ys zs hy hz
  · have := UpL.freeze (ys := ys) (zs := zs) (id := q) (off := 0) (sz := sz) (n := 0) (full := true) (full' := false) (fun h => by cases h) h4 (by simp)
    simp only [Nat.zero_mul, List.take_zero] at this
    refine this.trans (UpL.le _ (le_del_free hb h3))
/-- What stands in order, and is the same, is the same row. -/
theorem strict_uniq {α : Type} (nm : α → By) : ∀ (a b : List α), a.Pairwise (fun x y => bl_ (nm x) (nm y) = true) → b.Pairwise (fun x y => bl_ (nm x) (nm y) = true) → (∀ x, x ∈ a ↔ x ∈ b) → a = b
  | [], [], _, _, _ => rfl
  | [], y :: b, _, _, h => by have := (h y).2 List.mem_cons_self; cases this
  | x :: a, [], _, _, h => by have := (h x).1 List.mem_cons_self; cases this
  | x :: a, y :: b, ha, hb, h => by
    have ha' := List.pairwise_cons.1 ha
    have hb' := List.pairwise_cons.1 hb
    have e : x = y := by
      rcases List.mem_cons.1 ((h x).1 List.mem_cons_self) with e | h1
      · exact e
      · rcases List.mem_cons.1 ((h y).2 List.mem_cons_self) with e | h2
        · exact e.symm
        · have h3 := bl_asymm (hb'.1 _ h1)
          rw [ha'.1 _ h2] at h3
          cases h3
    subst e
    congr 1
    refine strict_uniq nm a b ha'.2 hb'.2 fun z => ⟨fun hz => ?_, fun hz => ?_⟩
    · rcases List.mem_cons.1 ((h z).1 (List.mem_cons_of_mem _ hz)) with e | h1
      · have := ha'.1 _ hz
        rw [e, bl_irrefl] at this
        cases this
      · exact h1
    · rcases List.mem_cons.1 ((h z).2 (List.mem_cons_of_mem _ hz)) with e | h1
      · have := hb'.1 _ hz
        rw [e, bl_irrefl] at this
        cases this
      · exact h1
/-- A row in order without two alike, of what another strictly ordered row holds, is that row. -/
theorem sorted_is {α : Type} (nm : α → By) {a b : List α} (hp : a.Perm b) (ha : a.Pairwise fun x y => bl_ (nm y) (nm x) = false) (hb : b.Pairwise fun x y => bl_ (nm x) (nm y) = true) : a = b := by
  refine strict_uniq nm a b ?_ hb fun x => hp.mem_iff
  have hnd : (a.map nm).Nodup := by
    refine (hp.map nm).nodup_iff.2 ?_
    unfold List.Nodup
    rw [List.pairwise_map]
    exact hb.imp fun {x y} h e => by rw [e, bl_irrefl] at h; cases h
  unfold List.Nodup at hnd
  rw [List.pairwise_map] at hnd
  exact (ha.and hnd).imp fun {x y} ⟨h1, h2⟩ => (bl_tri _ _ h1).elim (fun e => absurd e.symm h2) id
theorem cmp39 {s : HS} {rest : List HV} {q : Nat} : CmpOk Try.prog (.func (.func 39) []) topC ltT rest s q := by
  intro M x y K hK
  have hp : plainFn Try.prog 39 = true := by unfold plainFn; rw [Try.func39]; rfl
  generalize Lay topC rest s q M = t at *
  simp only [hcall, hite_eq, hp, if_true, List.append_nil]
  refine HC.weaken (HC39 ?_)
  unfold c39
  refine hbox_intro (hc_agg _) fun i1 h1 => ?_
  have e1 := set_at t i1 (.cells (topC x))
  have hle := le_set_new (.cells (topC x)) (le_refl' t) h1
  generalize t.set i1 (.cells (topC x)) = t1 at *
  refine hbox_intro (hc_agg _) fun i2 h2 => ?_
  have e2 := set_at t1 i2 (.cells (topC y))
  have e3 : (t1.set i2 (.cells (topC y))) i1 = some (.cells (topC x)) := by rw [set_ne _ _ (ne_new e1 h2)]; exact e1
  have hle2 := le_set_new (.cells (topC y)) hle h2
  generalize t1.set i2 (.cells (topC y)) = t2 at *
  have l1 : vLoad t2 (.ptr i1 (0 + 0)) 1 false = some (strV x.name) := load_cell 0 1 e3
  have l2 : vLoad t2 (.ptr i2 (0 + 0)) 1 false = some (strV y.name) := load_cell 0 1 e2
  simp only [vField, bindO, l1, l2]
  refine (cmp40 x.name y.name t2).mono ?_
  rintro v t5 ⟨rfl, n, rfl, hn⟩
  exact ⟨t, hle2, hK n hn⟩
def slotsOf (ts : List Top) : List Slot := ts.flatMap fun t => (List.range t.parts.toNat).map fun j => (t.name, ((j : Nat) : Int))
theorem slotsOf_take (ts : List Top) {i : Nat} (hi : i < ts.length) : slotsOf (ts.take (i + 1)) = slotsOf (ts.take i) ++ (List.range (ts.getD i t0).parts.toNat).map fun j => ((ts.getD i t0).name, ((j : Nat) : Int)) := by
  rw [take_succ' t0 ts hi]; simp [slotsOf]
theorem slotsOf_at (ts : List Top) {i j : Nat} (hi : i < ts.length) (hj : j < (ts.getD i t0).parts.toNat) : (slotsOf (ts.take i)).length + j < (slotsOf ts).length ∧ (slotsOf ts).getD ((slotsOf (ts.take i)).length + j) ([], 0) = ((ts.getD i t0).name, (j : Int)) := by
  have h1 : slotsOf ts = slotsOf (ts.take i) ++ (((List.range (ts.getD i t0).parts.toNat).map fun j => ((ts.getD i t0).name, ((j : Nat) : Int))) ++ slotsOf (ts.drop (i + 1))) := by
    rw [← List.append_assoc, ← slotsOf_take ts hi]
    conv => lhs; rw [← List.take_append_drop (i + 1) ts]
    simp only [slotsOf, List.flatMap_append]
  rw [h1]
  refine ⟨by simp only [List.length_append, List.length_map, List.length_range]; omega, ?_⟩
  generalize ts.getD i t0 = T at *
  simp only [List.getD]
  rw [List.getElem?_append_right (by omega), Nat.add_sub_cancel_left, List.getElem?_append_left (by simpa using hj), List.getElem?_map, List.getElem?_range hj]
  rfl
theorem gives36 {s : HS} {p : Nat} {B : HV} {tl ts : List Top} (hp : s p = some (.cells [B])) (hB : RowV s 2 B tl.length (rows topC tl)) (hl : tl.length ≤ 1000000) (pm : ts.Perm tl) (st : ts.Pairwise fun x y => ltT x y = true) (hpa : ∀ t ∈ ts, t.parts ≤ 1000000000) :
    GivesL Try.prog 36 [.ptr p 0] (slotsOf ts).length (fun i => [.agg (slC ((slotsOf ts).getD i ([], 0)))]) s := by
  intro idl J E s' hle hJ hJs hround h0
  refine A1.HC36 ?_
  unfold A1.c36
  rw [show vLoad s' (.ptr p 0) 1 false = some B from load_cell 0 1 (hle _ _ hp)]
  simp only [bindO]
  refine (clone37 (hB.le hle) (by omega)).mono ?_
  rintro A1 s2 ⟨hA1, hle2⟩
  refine (sortRow38 hA1 hle2 (fun q hq => cmp39) (by omega)).mono ?_
  rintro v s3 ⟨l', hpm, hso, hA', hle3⟩
  obtain rfl : l' = ts := sorted_is Top.name (hpm.trans pm.symm) hso st
  have hn : l'.length ≤ 1000000 := by rw [pm.length_eq]; exact hl
  rw [show vLenT (Try.prog.underlying 37) s3 A1 = some (.lit (.int .i64 (l'.length : Int))) from (acc0_row hA').len _ _]
  refine JoinU.of (fun xs t => xs = [rowL topC 2 l', .lit (.int .i64 (l'.length : Int)), .lit (.int .i64 0)] ∧ t = s') ?_ ?_
  rotate_left
  · intro K hK
    exact hK _ _ _ _ (acc0_upAtL hA' hle3 [] [.lit (.int .i64 (l'.length : Int)), .lit (.int .i64 0)] (fun _ _ => rfl) (fun _ _ => rfl)) ⟨rfl, rfl⟩
  rintro _ t ⟨rfl, rfl⟩
  simp only [List.headD_cons, List.tail_cons]
  refine HLoop.ghost (σ := Nat) (fun i => [.lit (.int .i64 (i : Int))]) (fun i t => i ≤ l'.length ∧ J (slotsOf (l'.take i)).length t) (fun i => l'.length - i) 0 rfl ⟨Nat.zero_le _, h0⟩ ?_
  rintro i t K ⟨hi, hj⟩ hK
  simp only [List.headD_cons, lss_i]
  by_cases hlt : i < l'.length
  · have hix := idx_rowL (enc := topC) (sz := 2) topC_len t0 l' .i64 hlt
    have htk := slotsOf_take l' hlt
    have hat := fun j => slotsOf_at l' (j := j) hlt
    have hpt := hpa (l'.getD i t0) (by rw [getD_get _ _ hlt]; exact List.getElem_mem hlt)
    simp only [hlt, decide_true, hcond, hix]
    generalize l'.getD i t0 = T at *
    rw [show ∀ u : HS, vLoad u (.elt (topC T) 0) 2 true = some (.agg (topC T)) from fun _ => rfl]
    simp only
    refine JoinU.of (fun xs u => xs = [.elt (topC T) 0] ∧ u = t) ?_ ?_
    rotate_left
    · intro K14 hK14
      refine new_store rfl rfl (topC_one T) fun X hX => ?_
      exact hK14 _ _ _ _ (UpL.frzP (set_at t X _) (le_set_new _ (le_refl' t) hX) hX [] []) ⟨rfl, rfl⟩
    rintro _ u ⟨rfl, rfl⟩
    obtain ⟨nm, pz⟩ := T
    have lN : ∀ w : HS, vLoad w (.elt (topC ⟨nm, pz⟩) (0 + 0)) 1 false = some (strV nm) := fun w => rfl
    have lP : ∀ w : HS, vLoad w (.elt (topC ⟨nm, pz⟩) (0 + 1)) 1 false = some (.lit (.int .i64 pz)) := fun w => rfl
    have hmx : hfold vMax2 (.lit (.int .i64 pz)) [.lit (.int .i64 0)] = some (.lit (.int .i64 ((pz.toNat : Nat) : Int))) := by
      simp only [hfold, vMax2, Option.bind_some]
      congr 3
      split <;> omega
    simp only [List.headD_cons, vField, lP, hmx]
    simp only at hat htk hpt
    refine HLoop.ghost (σ := Nat) (fun j => [.lit (.int .i64 (j : Int))]) (fun j t => j ≤ pz.toNat ∧ J ((slotsOf (l'.take i)).length + j) t) (fun j => pz.toNat - j) 0 rfl ⟨Nat.zero_le _, hj⟩ ?_
    rintro j v K25 ⟨hj1, hj2⟩ hK25
    simp only [List.headD_cons, lss_i]
    by_cases hjp : j < pz.toNat
    · obtain ⟨a1, a2⟩ := hat j hjp
      simp only [hjp, decide_true, lN]
      rw [show ∀ n : Int, vMk [(0, 1), (1, 1)] [.lit (.string .empty), .lit (.int .i64 0)] [(0, strV nm), (1, .lit (.int .i64 n))] = some (.agg (slC (nm, n))) from fun n => by simp [vMk, hfill, strV, hc_string, hc_int]; rfl]
      simp only [hcall]
      rw [← a2]
      refine hround _ _ _ a1 hj2 (fun t' h' => ?_) (fun t' h' => ?_)
      · simp only [vUn, Bool.not_true]
        rw [wlit1, add_i (show j + 1 < 9223372036854775808 by omega)]
        exact hK25 (j + 1) _ _ rfl ⟨hjp, h'⟩ (by omega)
      · simp only [vUn, Bool.not_false]
        exact .inr h'
    · obtain rfl : j = pz.toNat := by omega
      simp only [hjp, decide_false]
      rw [wlit1, add_i (show i + 1 < 9223372036854775808 by omega)]
      refine hK (i + 1) _ _ rfl ⟨hlt, ?_⟩ (by show l'.length - (i + 1) < l'.length - i; omega)
      rw [htk, List.length_append, List.length_map, List.length_range]
      exact hj2
  · obtain rfl : i = l'.length := by omega
    simp only [hlt, decide_false, hcond]
    rw [List.take_length] at hj
    exact .inl hj
end Go.Proofs.Ytkcgokkgefgcjaa.AS
end
section
namespace Go.Proofs.Ytkcgokkgefgcjaa.AS
open Go.Proofs.Ytkcgokkgefgcjaa.H Go.Proofs.Ytkcgokkgefgcjaa.A0
set_option linter.unusedVariables false
set_option linter.unusedSimpArgs false
set_option maxRecDepth 100000
def hasT (ms : List Mem) (nm : By) (i : Nat) : Bool := ((ms.getD i m0).tp.getD []).contains nm
/-- Who is next in the ring, of those that read a topic. -/
def pick (ms : List Mem) (nm : By) (next : Nat) : Option Nat := ((List.range ms.length).map fun k => (next + k) % ms.length).find? (hasT ms nm)
def roundStep (ms : List Mem) (g : Nat × List (Nat × Slot)) (x : Slot) : Nat × List (Nat × Slot) := match pick ms x.1 g.1 with
  | some i => (i + 1, g.2 ++ [(i, x)])
  | none => g
/-- What Round gives. -/
def roundG (ms : List Mem) (xs : List Slot) : Nat × List (Nat × Slot) := xs.foldl (roundStep ms) (0, [])
def roundA (ms : List Mem) (ts : List Top) : List (Nat × Slot) := (roundG ms (slotsOf ts)).2
theorem roundG_take (ms : List Mem) (xs : List Slot) {i : Nat} (hi : i < xs.length) : roundG ms (xs.take (i + 1)) = roundStep ms (roundG ms (xs.take i)) (xs.getD i ([], 0)) := by
  rw [take_succ' ([], 0) xs hi]
  simp [roundG]
theorem pick_lt {ms : List Mem} {nm : By} {next i : Nat} (h : pick ms nm next = some i) : i < ms.length ∧ hasT ms nm i = true := by
  have h1 := List.mem_of_find?_eq_some h
  have h2 := List.find?_some h
  obtain ⟨k, hk, rfl⟩ := List.mem_map.1 h1
  have hk' : k < ms.length := by simpa using hk
  exact ⟨Nat.mod_lt _ (by omega), h2⟩
theorem roundG_le (ms : List Mem) : ∀ (xs : List Slot) (g : Nat × List (Nat × Slot)), g.1 ≤ ms.length → (xs.foldl (roundStep ms) g).1 ≤ ms.length ∧ (xs.foldl (roundStep ms) g).2.length ≤ g.2.length + xs.length
  | [], g, h => ⟨h, Nat.le_refl _⟩
  | x :: xs, g, h => by
    rw [List.foldl_cons, List.length_cons]
    have hs : (roundStep ms g x).1 ≤ ms.length ∧ (roundStep ms g x).2.length ≤ g.2.length + 1 := by
      unfold roundStep
      split
      · rename_i i hi
        have := (pick_lt hi).1
        exact ⟨by show i + 1 ≤ _; omega, by simp⟩
      · exact ⟨h, Nat.le_succ _⟩
    have := roundG_le ms xs _ hs.1
    exact ⟨this.1, by omega⟩
theorem slots25 (a : HV) (s : HS) (ha : hcells a = some [a]) : HC Try.prog 25 [a] s (fun v t => ∃ p, s p = none ∧ v = .func (.func 36) [.ptr p 0] ∧ t = s.set p (.cells [a])) := by
  refine HC25 ?_
  unfold c25
  exact hbox_intro ha fun id hid => ⟨id, hid, rfl, rfl⟩
theorem plain36 : plainFn Try.prog 36 = true := by unfold plainFn; rw [Try.func36]; rfl
/-- What lies still elsewhere may be written, as far as shares go. -/
theorem SharesP.put {b u : HS} {SH : HV} {D : DD} (h : SharesP b u SH D) {k : Nat} (hk : b k ≠ none) (ob : HObj) : SharesP b (u.set k ob) SH D := by
  rcases h with h | ⟨q, f, L, h1, h2, h3⟩
  · exact .inl h
  · have hq : q ≠ k := by rintro rfl; exact hk h3.free
    refine .inr ⟨q, f, L, h1, h2, ⟨h3.free, by rw [set_ne _ _ hq]; exact h3.at_, fun x hx => (h3.acc x hx).put _ fun e => hk ((h3.acc x hx).free e).1, h3.apart, h3.self⟩⟩
/-- A round's token is no share. -/
theorem SharesP.near {b u v : HS} {SH : HV} {D : DD} {idl : Nat} (h : SharesP b u SH D) (hn : Near idl u v) : SharesP b v SH D := by
  rcases h with h | ⟨q, f, L, h1, h2, h3⟩
  · exact .inl h
  · exact .inr ⟨q, f, L, h1, h2, ⟨h3.free, hn.cells h3.at_, fun x hx => hn.acc (h3.acc x hx), h3.apart, h3.self⟩⟩
theorem SharesP.tok {b u : HS} {SH : HV} {D : DD} {idl : Nat} {R0 : HObj} (h : SharesP b u SH D) (ht : u idl = some R0) (tk : IsTok R0) (R1 : HObj) : SharesP b (u.set idl R1) SH D := by
  have hc : ∀ j cs, u j = some (.cells cs) → j ≠ idl := fun j cs hj e => by rw [e, ht] at hj; cases hj; exact tk
  rcases h with h | ⟨q, f, L, h1, h2, h3⟩
  · exact .inl h
  · exact .inr ⟨q, f, L, h1, h2, ⟨h3.free, by rw [set_ne _ _ (hc _ _ h3.at_)]; exact h3.at_, fun x hx => (h3.acc x hx).put _ fun e => hc _ _ ((h3.acc x hx).free e).2 rfl, h3.apart, h3.self⟩⟩
end Go.Proofs.Ytkcgokkgefgcjaa.AS
end
section
namespace Go.Proofs.Ytkcgokkgefgcjaa.AS
open Go.Proofs.Ytkcgokkgefgcjaa.H Go.Proofs.Ytkcgokkgefgcjaa.A0
set_option linter.unusedVariables false
set_option linter.unusedSimpArgs false
set_option maxRecDepth 100000
/-- What somebody is given. -/
def shOf (l : List (Nat × Slot)) (i : Nat) : List Slot := (l.filter fun p => p.1 == i).map Prod.snd
theorem shOf_app (a b : List (Nat × Slot)) (i : Nat) : shOf (a ++ b) i = shOf a i ++ shOf b i := by simp [shOf]
theorem giveD_get (D : DD) (j : Nat) (x : Slot) {i : Nat} (hi : i < D.length) : (giveD D j x).getD i d0 = ((D.getD i d0).1, (D.getD i d0).2 ++ shOf [(j, x)] i) := by
  unfold giveD shOf
  by_cases h : j = i
  · subst h
    simp [List.getD, hi]
  · have h2 : (j == i) = false := by simpa using h
    simp [List.getD, h, h2]
theorem giveA_get : ∀ (l : List (Nat × Slot)) (D : DD) {i : Nat}, i < D.length → (giveA D l).getD i d0 = ((D.getD i d0).1, (D.getD i d0).2 ++ shOf l i)
  | [], D, i, hi => by simp [giveA, shOf]
  | p :: l, D, i, hi => by
    show (giveA (giveD D p.1 p.2) l).getD i d0 = _
    rw [giveA_get l _ (by rw [giveD_len]; exact hi), giveD_get D _ _ hi]
    simp only [List.append_assoc]
    rw [← shOf_app]
    rfl
def wanted (ms : List Mem) (nm : By) : Bool := (List.range ms.length).any (hasT ms nm)
structure Good (ms : List Mem) (ts : List Top) (l : List (Nat × Slot)) : Prop where
  slots : l.map Prod.snd = (slotsOf ts).filter fun x => wanted ms x.1
  who : ∀ p ∈ l, p.1 < ms.length ∧ hasT ms p.2.1 p.1 = true
theorem who_eq (ms : List Mem) (t : Top) : whoOf ms t ms.length = (List.range ms.length).filter (hasT ms t.name) := rfl
theorem cum_all {parts n : Nat} (hn : 0 < n) : cum parts n n = parts := by
  rw [cum_eq]
  have h2 := Nat.div_add_mod parts n
  have h3 := Nat.mod_lt parts hn
  rw [Nat.min_eq_right (by omega)]
  exact h2
def allT (ms : List Mem) (nm : By) : Prop := ∀ i, i < ms.length → hasT ms nm i = true
theorem who_all {ms : List Mem} {t : Top} (h : allT ms t.name) : whoOf ms t ms.length = List.range ms.length := by
  rw [who_eq, List.filter_eq_self]
  intro i hi
  exact h i (by simpa using hi)
theorem range_getD {n k : Nat} (h : k < n) : (List.range n).getD k 0 = k := by simp [List.getD, h]
theorem sh_asgT (nm : By) (parts n : Nat) (i : Nat) : ∀ k, k ≤ n → shOf (asgT nm parts (List.range n) k) i = if i < k then (List.range (cnt parts n i)).map (fun x => (nm, ((cum parts n i + x : Nat) : Int))) else []
  | 0, _ => by simp [asgT, shOf]
  | k + 1, hk => by
    rw [asgT_succ, shOf_app, sh_asgT nm parts n i k (by omega)]
    have e : shOf (asgK nm parts (List.range n) k (cnt parts n k)) i = if i = k then (List.range (cnt parts n i)).map (fun x => (nm, ((cum parts n i + x : Nat) : Int))) else [] := by
      unfold asgK shOf
      rw [range_getD (show k < n by omega), List.length_range]
      by_cases h : i = k
      · subst h
        rw [if_pos rfl, List.filter_eq_self.2]
        · simp
        · intro p hp
          obtain ⟨x, _, rfl⟩ := List.mem_map.1 hp
          simp
      · rw [if_neg h, List.filter_eq_nil_iff.2]
        · rfl
        · intro p hp
          obtain ⟨x, _, rfl⟩ := List.mem_map.1 hp
          simp; omega
    rw [List.length_range, e]
    by_cases h1 : i < k
    · rw [if_pos h1, if_neg (by omega), if_pos (by omega), List.append_nil]
    · by_cases h2 : i = k
      · rw [if_neg h1, if_pos h2, if_pos (by omega), List.nil_append]
      · rw [if_neg h1, if_neg h2, if_neg (by omega), List.nil_append]
theorem range_one {ms : List Mem} {nm : By} {np : Nat} (h : allT ms nm) {i : Nat} (hi : i < ms.length) : shOf (rangeA ms [⟨nm, (np : Int)⟩]) i = (List.range (cnt np ms.length i)).map (fun x => (nm, ((cum np ms.length i + x : Nat) : Int))) := by
  have e : rangeA ms [⟨nm, (np : Int)⟩] = asgT nm np (List.range ms.length) ms.length := by
    simp only [rangeA, List.flatMap_cons, List.flatMap_nil, List.append_nil, Int.toNat_natCast]
    rw [who_all (t := ⟨nm, (np : Int)⟩) h, List.length_range]
  rw [e, sh_asgT nm np ms.length i _ (Nat.le_refl _), if_pos hi]
theorem pick_all {ms : List Mem} {nm : By} (h : allT ms nm) {next : Nat} (hn : 0 < ms.length) : pick ms nm next = some (next % ms.length) := by
  unfold pick
  obtain ⟨n, e⟩ : ∃ n, ms.length = n + 1 := ⟨ms.length - 1, by omega⟩
  rw [e, List.range_succ_eq_map, List.map_cons, List.find?_cons, Nat.add_zero, ← e, h _ (Nat.mod_lt _ hn)]
theorem round_all {ms : List Mem} {nm : By} (h : allT ms nm) (hn : 0 < ms.length) : ∀ np : Nat, (roundG ms ((List.range np).map fun j => (nm, ((j : Nat) : Int)))).2 = (List.range np).map (fun j => (j % ms.length, (nm, ((j : Nat) : Int)))) ∧ (roundG ms ((List.range np).map fun j => (nm, ((j : Nat) : Int)))).1 % ms.length = np % ms.length
  | 0 => ⟨rfl, rfl⟩
  | np + 1 => by
    obtain ⟨h1, h2⟩ := round_all h hn np
    rw [List.range_succ, List.map_append, List.map_append, roundG, List.foldl_append]
    show (roundStep ms (roundG ms _) _).2 = _ ∧ (roundStep ms (roundG ms _) _).1 % _ = _
    generalize roundG ms ((List.range np).map fun j => (nm, ((j : Nat) : Int))) = G at *
    have e : roundStep ms G (nm, (np : Int)) = (np % ms.length + 1, G.2 ++ [(np % ms.length, (nm, (np : Int)))]) := by
      unfold roundStep
      rw [pick_all h hn]
      simp only
      rw [h2]
    rw [e, h1]
    exact ⟨rfl, by rw [Nat.mod_add_mod]⟩
theorem sh_mod (nm : By) (n : Nat) (hn : 0 < n) (i : Nat) (hi : i < n) : ∀ np : Nat, shOf ((List.range np).map (fun j => (j % n, (nm, ((j : Nat) : Int))))) i = (List.range (cnt np n i)).map fun k => (nm, ((i + k * n : Nat) : Int))
  | 0 => by simp [shOf, cnt]
  | np + 1 => by
    rw [List.range_succ, List.map_append, shOf_app, sh_mod nm n hn i hi np]
    have hd := Nat.div_add_mod np n
    have hm := Nat.mod_lt np hn
    have hm1 : (np + 1) % n = if np % n + 1 = n then 0 else np % n + 1 := by
      rw [Nat.add_mod]
      by_cases h1 : n = 1
      · subst h1; simp [Nat.mod_one]
      · rw [Nat.mod_eq_of_lt (show 1 < n by omega)]
        split
        · rename_i h; rw [h, Nat.mod_self]
        · exact Nat.mod_eq_of_lt (by omega)
    have hd1 : (np + 1) / n = if np % n + 1 = n then np / n + 1 else np / n := by
      split
      · rename_i h
        rw [Nat.div_eq_of_lt_le]
        · rw [Nat.succ_mul, Nat.mul_comm]; omega
        · rw [Nat.succ_mul, Nat.succ_mul, Nat.mul_comm]; omega
      · rw [Nat.div_eq_of_lt_le]
        · rw [Nat.mul_comm]; omega
        · rw [Nat.succ_mul, Nat.mul_comm]; omega
    by_cases h : np % n = i
    · have hc : cnt (np + 1) n i = cnt np n i + 1 := by
        unfold cnt
        rw [hm1, hd1]
        split <;> split <;> split <;> omega
      have hc2 : cnt np n i = np / n := by unfold cnt; rw [if_neg (by omega)]; rfl
      rw [hc, List.range_succ, List.map_append]
      congr 1
      simp only [shOf, List.map_cons, List.map_nil, h, List.filter_cons, beq_self_eq_true, if_true, List.filter_nil]
      rw [hc2, show i + np / n * n = np by rw [Nat.mul_comm]; omega]
    · have hc : cnt (np + 1) n i = cnt np n i := by
        unfold cnt
        rw [hm1, hd1]
        split <;> split <;> split <;> omega
      have : (np % n == i) = false := by simpa using h
      rw [hc]
      simp [shOf, this]
theorem round_one {ms : List Mem} {nm : By} {np : Nat} (h : allT ms nm) {i : Nat} (hi : i < ms.length) : shOf (roundA ms [⟨nm, (np : Int)⟩]) i = (List.range (cnt np ms.length i)).map fun k => (nm, ((i + k * ms.length : Nat) : Int)) := by
  have e : slotsOf [⟨nm, (np : Int)⟩] = (List.range np).map fun j => (nm, ((j : Nat) : Int)) := by simp [slotsOf]
  rw [roundA, e, (round_all h (by omega) np).1, sh_mod nm ms.length (by omega) i hi]
theorem cnt_le (np n i : Nat) : np / n ≤ cnt np n i ∧ cnt np n i ≤ np / n + 1 := by
  unfold cnt
  split <;> omega
theorem cnt_mono (np n i : Nat) : cnt np n (i + 1) ≤ cnt np n i := by
  unfold cnt
  split <;> split <;> omega
theorem cum_le' {parts n k : Nat} (hk : k ≤ n) : cum parts n k ≤ parts := by
  rw [cum_eq]
  have h1 := Nat.mul_le_mul_right (parts / n) hk
  have h2 := Nat.div_add_mod parts n
  have h3 : min k (parts % n) ≤ parts % n := Nat.min_le_right _ _
  omega
theorem snoc_ind {α : Type} {p : List α → Prop} (h0 : p []) (hs : ∀ l x, p l → p (l ++ [x])) (l : List α) : p l := by
  have : ∀ l : List α, p l.reverse := fun l => by
    induction l with
    | nil => exact h0
    | cons x l ih => rw [List.reverse_cons]; exact hs _ _ ih
  have := this l.reverse
  rwa [List.reverse_reverse] at this
end Go.Proofs.Ytkcgokkgefgcjaa.AS
end
section
namespace Go.Proofs.Ytkcgokkgefgcjaa.AS
open Go.Proofs.Ytkcgokkgefgcjaa.H Go.Proofs.Ytkcgokkgefgcjaa.A0
set_option linter.unusedVariables false
set_option linter.unusedSimpArgs false
set_option maxRecDepth 100000
def slV (l : List Slot) : HV := accV 2 l.length (rows slC l)
def shE (d : By × List Slot) : List HV := [strV d.1, slV d.2]
theorem shE_len (d : By × List Slot) : (shE d).length = 2 := rfl
theorem slV_frz (l : List Slot) (p : Nat) (cs : List HV) : frz0 p cs (slV l) = slV l := by
  unfold slV accV
  split <;> rfl
theorem shE_frz (D : DD) (p : Nat) (cs : List HV) : (rows shE D).map (frz0 p cs) = rows shE D := by
  induction D with
  | nil => rfl
  | cons d D ih => rw [rows_cons, List.map_append, ih]; simp only [shE, List.map_cons, List.map_nil, slV_frz]; rfl
theorem shE_one (D : DD) : ∀ x ∈ rows shE D, hone x = true := rows_ones (fun d y hy => by
  simp only [shE, List.mem_cons, List.not_mem_nil, or_false] at hy
  rcases hy with rfl | rfl
  · rfl
  · unfold slV accV; split <;> rfl) D
theorem shC_frz {b t : HS} (L : List Sh) (p : Nat) (cs : List HV) (h : ∀ x ∈ L, Acc b t 2 x.row x.sl.length (rows slC x.sl)) (hp : ∀ x ∈ L, accId x.row ≠ some p) : (rows shC L).map (frz0 p cs) = rows shC L := by
  induction L with
  | nil => rfl
  | cons d D ih =>
    rw [rows_cons, List.map_append, ih (fun x hx => h x (List.mem_cons_of_mem _ hx)) (fun x hx => hp x (List.mem_cons_of_mem _ hx))]
    have h1 := h d List.mem_cons_self
    have h2 := hp d List.mem_cons_self
    have e : frz0 p cs d.row = d.row := by
      rcases h1 with ⟨e, -⟩ | ⟨q, f, -, e, -⟩
      · rw [e]; rfl
      · rw [e] at h2 ⊢
        have : ¬ q = p := fun e2 => h2 (by rw [e2]; rfl)
        simp [frz0, phi, this]
    simp only [shC, List.map_cons, List.map_nil, e]
    rfl
theorem shUp_aux {b : HS} {q : Nat} {xs : List HV} (hx : ∀ p cs, p ≠ q → xs.map (frz2 p cs) = xs) (hq : b q = none) : ∀ (post : List Sh) (pre : DD) (t : HS), HS.le b t → t q = some (.cells (rows shE pre ++ rows shC post)) →
    (∀ x ∈ post, Acc b t 2 x.row x.sl.length (rows slC x.sl)) → post.Pairwise (fun x y => accId x.row = none ∨ accId x.row ≠ accId y.row) → (∀ x ∈ post, accId x.row ≠ some q) →
    ∃ t', HS.le b t' ∧ t' q = some (.cells (rows shE (pre ++ post.map dOf))) ∧ UpL xs t xs t'
  | [], pre, t, hb, ht, ha, hp, hs => ⟨t, hb, by rw [ht]; simp [rows], UpL.refl _ _⟩
  | x :: post, pre, t, hb, ht, ha, hp, hs => by
    have hax := ha x List.mem_cons_self
    have hsx := hs x List.mem_cons_self
    rw [List.pairwise_cons] at hp
    have e1 : pre ++ (x :: post).map dOf = (pre ++ [dOf x]) ++ post.map dOf := by simp
    rcases hax with ⟨h1, h2, h3⟩ | ⟨p, f, h1, h2, h3, h4, h5⟩
    · have e2 : rows shE pre ++ rows shC (x :: post) = rows shE (pre ++ [dOf x]) ++ rows shC post := by
        have : x.sl = [] := List.eq_nil_of_length_eq_zero h3
        rw [rows_cons, rows_app, rows_one]
        simp [shE, shC, dOf, this, h1, slV, accV]
      rw [e1]
      exact shUp_aux hx hq post (pre ++ [dOf x]) t hb (by rw [← e2]; exact ht) (fun y hy => ha y (List.mem_cons_of_mem _ hy)) hp.2 (fun y hy => hs y (List.mem_cons_of_mem _ hy))
    · have hpq : p ≠ q := fun e => hsx (by rw [h2, e]; rfl)
      obtain ⟨t1, ht1⟩ : ∃ t1 : HS, t1 = fun k => if k = p then none else if k = q then some (.cells (rows shE (pre ++ [dOf x]) ++ rows shC post)) else t k := ⟨_, rfl⟩
      have hap : ∀ y ∈ post, accId y.row ≠ some p := fun y hy e => by
        rcases hp.1 y hy with h | h
        · rw [h2] at h; cases h
        · exact h (by rw [e, h2]; rfl)
      have hu : UpL xs t xs t1 := by
        have hu := UpL.frzG (xs := xs) (s' := t1) h3 fun k o hk => ?_
        · rw [hx p _ hpq] at hu; exact hu
        · rw [ht1] at hk
          simp only at hk
          split at hk
          · cases hk
          · rename_i hkp
            split at hk
            · rename_i hkq
              subst hkq
              cases hk
              refine ⟨hkp, _, ht, .inr ?_⟩
              simp only [frzO, List.map_append, shE_frz, rows_cons, rows_app, rows_one, List.append_assoc]
              rw [shC_frz post p _ (fun y hy => ha y (List.mem_cons_of_mem _ hy)) hap]
              have e5 : frz0 p (rows slC x.sl) x.row = slV x.sl := by
                rw [h2]
                simp only [frz0, phi, Nat.zero_add, h4, Nat.le_refl, and_self, if_true, Option.getD_some, List.drop_zero, slV, accV, h5, if_false]
                rw [List.take_of_length_le (by omega)]
              simp only [shC, List.map_cons, List.map_nil, e5]
              rfl
            · exact ⟨hkp, o, hk, .inl rfl⟩
      have hb1 : HS.le b t1 := fun k ob hk => by
        have hkp : k ≠ p := by rintro rfl; rw [h1] at hk; cases hk
        have hkq : k ≠ q := by rintro rfl; rw [hq] at hk; cases hk
        rw [ht1]
        simp only [if_neg hkp, if_neg hkq]
        exact hb k ob hk
      obtain ⟨t', g1, g2, g3⟩ := shUp_aux hx hq post (pre ++ [dOf x]) t1 hb1 (by rw [ht1]; simp [Ne.symm hpq]) (fun y hy => (ha y (List.mem_cons_of_mem _ hy)).keep fun k ob hk hk2 => by
        have hkp : k ≠ p := by rintro rfl; exact hap y hy hk
        have hkq : k ≠ q := by rintro rfl; exact hs y (List.mem_cons_of_mem _ hy) hk
        rw [ht1]
        simp only [if_neg hkp, if_neg hkq]
        exact hk2) hp.2 (fun y hy => hs y (List.mem_cons_of_mem _ hy))
      exact ⟨t', g1, by rw [e1]; exact g2, hu.trans g3⟩
theorem SharesP.up {b u : HS} {SH : HV} {D : DD} (h : SharesP b u SH D) (hb : HS.le b u) (X : HV → List HV) (hX : ∀ q n f p cs, (X (.view q 0 2 n f)).map (frz2 p cs) = X (frz0 p cs (.view q 0 2 n f))) :
    ∃ o : Option DD, o.getD [] = D ∧ UpL (X SH) u (X (rowV shE 2 o)) b := by
  rcases h with ⟨rfl, rfl⟩ | ⟨q, f, L, rfl, rfl, h3⟩
  · exact ⟨none, rfl, UpL.le _ hb⟩
  · have hpw : L.Pairwise (fun x y => accId x.row = none ∨ accId x.row ≠ accId y.row) := by
      rw [List.pairwise_iff_getElem]
      intro i j hi hj hij
      have := h3.apart i j hij hj
      rw [getD_get _ _ hi, getD_get _ _ hj] at this
      exact this
    obtain ⟨t', g1, g2, g3⟩ := shUp_aux (xs := X (.view q 0 2 (L.map dOf).length f)) (b := b) (q := q) (fun p cs hpq => by
      rw [hX]
      have : ¬ q = p := fun e => hpq e.symm
      simp [frz0, phi, this]) h3.free L [] u hb (by rw [h3.at_]; simp [rows]) h3.acc hpw h3.self
    refine ⟨some (L.map dOf), rfl, g3.trans ?_⟩
    have := UpL.frzD (xs := X (.view q 0 2 (L.map dOf).length f)) g2 g1 h3.free
    rw [hX] at this
    simp only [frz0, phi, Nat.zero_add, rows_len shE_len, List.nil_append, Nat.le_refl, and_self, if_true, Option.getD_some, List.drop_zero] at this
    rw [rows_all shE_len] at this
    exact this
end Go.Proofs.Ytkcgokkgefgcjaa.AS
end
section
namespace Go.Proofs.Ytkcgokkgefgcjaa.AS
open Go.Proofs.Ytkcgokkgefgcjaa.H Go.Proofs.Ytkcgokkgefgcjaa.A0
set_option linter.unusedVariables false
set_option linter.unusedSimpArgs false
set_option maxRecDepth 100000
theorem new_store1 {s : HS} {z v : HV} {K : HV → HS → Prop} (hv : hcells v = some [v]) (ho : hone v = true) (h : ∀ q, s q = none → K (.ptr q 0) (s.set q (.cells [v]))) :
    hNew s (.cells [z]) (fun id => .ptr id 0) (fun x t => hStore t x v 1 (fun t' => K x t')) := by
  intro q hq
  have e : (s.set q (.cells [z])).set q (.cells [v]) = s.set q (.cells [v]) := by funext k; simp only [HS.set]; split <;> rfl
  unfold hStore
  simp only [hv, set_at]
  refine ⟨rfl, by simp, by simp [ho], ?_⟩
  rw [show putCells [z] 0 [v] = [v] from rfl, e]
  exact h q hq
theorem pick_some {ms : List Mem} {nm : By} {next k : Nat} (hk : k < ms.length) (h : ∀ j, j < k → hasT ms nm ((next + j) % ms.length) = false) (ht : hasT ms nm ((next + k) % ms.length) = true) : pick ms nm next = some ((next + k) % ms.length) := by
  unfold pick
  have e : List.range ms.length = List.range k ++ (k :: (List.range (ms.length - k - 1)).map fun x => k + 1 + x) := by
    conv => lhs; rw [show ms.length = k + (1 + (ms.length - k - 1)) by omega, List.range_add, List.range_add]
    simp [List.range_succ, Nat.add_assoc]
  rw [e, List.map_append, List.map_cons, List.find?_append]
  rw [List.find?_eq_none.2]
  · simp [ht]
  · intro x hx
    obtain ⟨j, hj, rfl⟩ := List.mem_map.1 hx
    rw [h j (by simpa using hj)]
    simp
theorem pick_no {ms : List Mem} {nm : By} {next : Nat} (h : ∀ j, j < ms.length → hasT ms nm ((next + j) % ms.length) = false) : pick ms nm next = none := by
  unfold pick
  rw [List.find?_eq_none]
  intro x hx
  obtain ⟨j, hj, rfl⟩ := List.mem_map.1 hx
  rw [h j (by simpa using hj)]
  simp
/-- What lies still may be told otherwise, as far as shares go. -/
theorem SharesP.rebase {b b' u : HS} {SH : HV} {D : DD} (h : SharesP b u SH D) (hb : ∀ k, b k = none → b' k = none) : SharesP b' u SH D := by
  rcases h with h | ⟨q, f, L, h1, h2, h3⟩
  · exact .inl h
  · refine .inr ⟨q, f, L, h1, h2, ⟨hb _ h3.free, h3.at_, fun x hx => ?_, h3.apart, h3.self⟩⟩
    rcases h3.acc x hx with h | ⟨r, g, e1, e2, e3, e4, e5⟩
    · exact .inl h
    · exact .inr ⟨r, g, hb _ e1, e2, e3, e4, e5⟩
/-- A round's token may be counted to what lies still. -/
theorem SharesP.tokG {b u : HS} {SH : HV} {D : DD} {idl : Nat} {R0 : HObj} (h : SharesP b u SH D) (ht : u idl = some R0) (tk : IsTok R0) (R1 : HObj) : SharesP (b.set idl R1) (u.set idl R1) SH D := by
  have hc : ∀ j cs, u j = some (.cells cs) → j ≠ idl := fun j cs hj e => by rw [e, ht] at hj; cases hj; exact tk
  rcases h with h | ⟨q, f, L, h1, h2, h3⟩
  · exact .inl h
  · refine .inr ⟨q, f, L, h1, h2, ⟨by rw [set_ne _ _ (hc _ _ h3.at_)]; exact h3.free, by rw [set_ne _ _ (hc _ _ h3.at_)]; exact h3.at_, fun x hx => ?_, h3.apart, h3.self⟩⟩
    rcases h3.acc x hx with h | ⟨r, g, e1, e2, e3, e4, e5⟩
    · exact .inl h
    · exact .inr ⟨r, g, by rw [set_ne _ _ (hc _ _ e3)]; exact e1, e2, by rw [set_ne _ _ (hc _ _ e3)]; exact e3, e4, e5⟩
theorem slots_len : ∀ (ts : List Top), (∀ t ∈ ts, t.parts ≤ 1000) → (slotsOf ts).length ≤ 1000 * ts.length
  | [], _ => by simp [slotsOf]
  | t :: ts, h => by
    have h1 := slots_len ts fun x hx => h x (List.mem_cons_of_mem _ hx)
    have h2 := h t List.mem_cons_self
    have h3 : (slotsOf (t :: ts)).length = t.parts.toNat + (slotsOf ts).length := by simp [slotsOf]
    rw [h3, List.length_cons]
    omega
theorem slC_one (x : Slot) : ∀ y ∈ slC x, hone y = true := by
  intro y hy
  simp only [slC, List.mem_cons, List.not_mem_nil, or_false] at hy
  rcases hy with rfl | rfl <;> rfl
theorem le_set_val {b u : HS} {k : Nat} {ob ob' : HObj} (h : HS.le (b.set k ob) u) : HS.le (b.set k ob') (u.set k ob') := by
  intro j o hj
  by_cases e : j = k
  · subst e; rw [set_at] at hj ⊢; exact hj
  · rw [set_ne _ _ e] at hj ⊢
    exact h j o (by rw [set_ne _ _ e]; exact hj)
theorem round10 {s : HS} {A B : HV} {l : List Mem} {tl : List Top} (hA : RowV s 2 A l.length (rows memC l)) (hB : RowV s 2 B tl.length (rows topC tl)) (hl : l.length ≤ 1000000) (htl : tl.length ≤ 1000000) (htp : ∀ m ∈ l, (m.tp.getD []).length ≤ 1000000000) :
    HC Try.prog 10 [A, B] s (fun v u => postRange roundA l tl s v u) := by
  refine HC10 ?_
  unfold c10
  refine (open27 hA hB hl htl).mono ?_
  rintro v s2 ⟨hle, hpost⟩
  rcases hpost with ⟨hbad, x, y, z, rfl, ox, oy, oz⟩ | ⟨hok, ms, ts, A1, A2, SH, b, pm, pt, sm, st, rfl, o1, o2, hc2, hsb, hbu, r1, r2, hsh⟩
  · simp only [vExtract, List.getElem?_cons_zero, List.getElem?_cons_succ, bindO]
    refine new_store rfl rfl (hone3 ox oy oz) fun p hp => ?_
    simp only [vUn, Bool.not_false, hcond]
    exact ⟨le_set_new _ hle hp, .inl ⟨hbad, rfl⟩⟩
  · have hshP := sharesP_start hsh
    have hmlen : ms.length = l.length := pm.length_eq
    have htlen : ts.length = tl.length := pt.length_eq
    have hparts : ∀ t ∈ ts, 0 ≤ t.parts ∧ t.parts ≤ 1000 := fun t ht => parts_ok hok.1 t (pt.mem_iff.1 ht)
    simp only [vExtract, List.getElem?_cons_zero, List.getElem?_cons_succ, bindO]
    refine new_store rfl rfl (hone3 o1 o2 (sharesP_one hshP).1) fun p hp => ?_
    have hP0 := (hshP.grow hp (.cells [A1, A2, SH])).le (le_set_new (.cells [A1, A2, SH]) (le_refl' s2) hp)
    have hbb : HS.le b (b.set p (.cells [A1, A2, SH])) := le_set_new _ (le_refl' b) (none_of_le hbu hp)
    have hbu0 : HS.le (b.set p (.cells [A1, A2, SH])) (s2.set p (.cells [A1, A2, SH])) := le_set_both (le_set_new _ hbu hp) (set_at _ _ _)
    have hp0 := set_at b p (.cells [A1, A2, SH])
    obtain ⟨bb, hbbe⟩ : ∃ bb, b.set p (.cells [A1, A2, SH]) = bb := ⟨_, rfl⟩
    rw [hbbe] at hP0 hbb hbu0 hp0
    generalize s2.set p (.cells [A1, A2, SH]) = u0 at *
    have r1' := r1.le hbb
    have r2' := r2.le hbb
    have hsbb := HS.le.trans hsb hbb
    clear hbbe hshP hsh hbu hp hle r1 r2
    simp only [vUn, Bool.not_true, hcond]
    refine new_store1 (hc_int _ _) (ho_int _ _) fun px hpx => ?_
    have bpx : bb px = none := none_of_le hbu0 hpx
    have hP1 := (hP0.grow hpx (.cells [.lit (.int .i64 0)])).le (le_set_new (.cells [.lit (.int .i64 0)]) (le_refl' u0) hpx)
    have hu1 : HS.le bb (u0.set px (.cells [.lit (.int .i64 0)])) := le_set_new _ hbu0 hpx
    have hbx : HS.le (bb.set px (.cells [.lit (.int .i64 0)])) (u0.set px (.cells [.lit (.int .i64 0)])) := le_set_both hu1 (set_at _ _ _)
    have ex1 := set_at u0 px (.cells [.lit (.int .i64 0)])
    generalize u0.set px (.cells [.lit (.int .i64 0)]) = u1 at *
    have ldp : ∀ u, HS.le bb u → ∀ j, vLoad u (.ptr p (0 + j)) 1 false = [A1, A2, SH][j]? := fun u hu j => by rw [Nat.zero_add]; exact load_cell j 1 (hu _ _ hp0)
    refine Join.of (fun _ u => HS.le bb u ∧ SharesP bb u SH (giveA (ms.map fun m => (m.id, [])) (roundA ms ts))) ?_ ?_
    · rintro _ u ⟨hu, hP⟩
      simp only [vField, ldp u hu 2, List.getElem?_cons_zero, List.getElem?_cons_succ]
      exact ⟨HS.le.trans hsbb hu, .inr ⟨hok, ms, ts, SH, pm, pt, sm, st, rfl, hP.base hsbb⟩⟩
    · intro K hK
      simp only [vField, ldp u1 hu1 1, List.getElem?_cons_zero, List.getElem?_cons_succ]
      refine (slots25 A2 u1 hc2).mono ?_
      rintro v u2 ⟨pb, hpb, rfl, rfl⟩
      have hPb := (hP1.grow hpb (.cells [A2])).le (le_set_new (.cells [A2]) (le_refl' u1) hpb)
      have nxb : px ≠ pb := ne_new ex1 hpb
      have hBle : HS.le bb (bb.set pb (.cells [A2])) := le_set_new _ (le_refl' bb) (none_of_le hu1 hpb)
      have hu2 : HS.le (bb.set pb (.cells [A2])) (u1.set pb (.cells [A2])) := le_set_both (le_set_new _ hu1 hpb) (set_at _ _ _)
      have hux : HS.le ((bb.set pb (.cells [A2])).set px (.cells [.lit (.int .i64 ((0 : Nat) : Int))])) (u1.set pb (.cells [A2])) := le_set_both hu2 (by rw [set_ne _ _ nxb]; exact ex1)
      have hPc : SharesP ((bb.set pb (.cells [A2])).set px (.cells [.lit (.int .i64 ((0 : Nat) : Int))])) (u1.set pb (.cells [A2])) SH (ms.map fun m => (m.id, [])) := by
        rw [set_comm bb (.cells [A2]) _ (Ne.symm nxb)]; exact hPb
      have bpx2 : (bb.set pb (.cells [A2])) px = none := by rw [set_ne _ _ nxb]; exact bpx
      have hpb0 := set_at bb pb (.cells [A2])
      generalize u1.set pb (.cells [A2]) = u2 at *
      obtain ⟨bc, hbc⟩ : ∃ bc, bb.set pb (.cells [A2]) = bc := ⟨_, rfl⟩
      rw [hbc] at hBle hu2 bpx2 hpb0 hux hPc
      clear hbc hPb hP1 hbx
      have hit := gives36 hpb0 (r2'.le hBle) (by omega) (List.Perm.refl ts) st (fun t ht => by have := (hparts t ht).2; omega)
      obtain ⟨xs, hxs⟩ : ∃ xs, slotsOf ts = xs := ⟨_, rfl⟩
      have hxl : xs.length ≤ 1000 * ts.length := by
        rw [← hxs]
        exact slots_len ts fun t ht => (hparts t ht).2
      have hRA : roundA ms ts = (roundG ms xs).2 := by rw [← hxs]; rfl
      rw [hxs] at hit
      rw [hRA] at hK
      have hleS : ∀ v : HObj, HS.le bc (bc.set px v) := fun v => le_set_new _ (le_refl' bc) bpx2
      refine HRange.seqL plain36 hu2 hit (fun i _ => rfl) (fun i u => HS.le (bc.set px (.cells [.lit (.int .i64 (((roundG ms (xs.take i)).1 : Nat) : Int))])) u ∧ SharesP (bc.set px (.cells [.lit (.int .i64 (((roundG ms (xs.take i)).1 : Nat) : Int))])) u SH (giveA (ms.map fun m => (m.id, [])) (roundG ms (xs.take i)).2)) (fun _ => False) (fun _ _ => False)
        (fun i u h => HS.le.trans (hleS _) h.1) ?_ (fun _ _ _ _ _ h => h) (fun _ _ _ _ _ _ h => h) ⟨hux, by rw [List.take_zero]; exact hPc⟩ ?_ (fun _ h => h.elim) (fun _ _ h => h.elim) ?_
      · rintro idl i u u' hi hn ⟨g1, g2⟩
        refine ⟨hn.le g1 ?_, g2.near hn⟩
        rw [set_ne _ _ (by rintro rfl; have := hux _ _ (set_at _ _ _); rw [hi] at this; cases this)]
        exact none_of_le hu2 hi
      · rintro u ⟨g1, g2⟩
        rw [List.take_length] at g2
        exact hK _ _ ⟨HS.le.trans hBle (HS.le.trans (hleS _) g1), (g2.base (hleS _)).base hBle⟩
      · rintro i u idl R0 R1 K' hi hid ht ⟨g1, g2⟩ kn kr kx tk0 tk1
        have htk := roundG_take ms xs hi
        obtain ⟨hnx, hal⟩ := roundG_le ms (xs.take i) (0, []) (Nat.zero_le _)
        change (roundG ms (xs.take i)).1 ≤ _ at hnx
        change (roundG ms (xs.take i)).2.length ≤ _ at hal
        rw [List.length_take] at hal
        generalize xs.getD i ([], 0) = x at *
        simp only [htk] at kn
        generalize roundG ms (xs.take i) = G at *
        obtain ⟨next, asg⟩ := G
        simp only [List.length_nil] at g1 g2 hnx hal
        have npx : px ≠ idl := by rintro rfl; have := g1 _ _ (set_at _ _ _); rw [this] at ht; cases ht; exact tk0
        have hidn : (bc.set px (.cells [.lit (.int .i64 (next : Int))])) idl = none := by rw [set_ne _ _ (Ne.symm npx)]; exact none_of_le hu2 hid
        simp only [List.headD_cons]
        refine new_store rfl rfl (slC_one x) fun X hX => ?_
        have hXi : idl ≠ X := ne_new ht hX
        have hP3 := ((g2.grow hX (.cells (slC x))).le (le_set_new (.cells (slC x)) (le_refl' u) hX)).tokG (by rw [set_ne _ _ hXi]; exact ht) tk0 R1
        have hb3 : HS.le (((bc.set px (.cells [.lit (.int .i64 (next : Int))])).set X (.cells (slC x))).set idl R1) ((u.set X (.cells (slC x))).set idl R1) := by
          refine le_set_both (le_set_free _ (le_set_both (le_set_new _ g1 hX) (set_at _ _ _)) ?_) (set_at _ _ _)
          rw [set_ne _ _ hXi]; exact hidn
        refine ⟨by rw [set_ne _ _ hXi]; exact ht, ?_⟩
        have bX : (bc.set px (.cells [.lit (.int .i64 (next : Int))])) X = none := none_of_le g1 hX
        have npX : px ≠ X := by rintro rfl; rw [set_at] at bX; cases bX
        generalize (u.set X (.cells (slC x))).set idl R1 = u3 at *
        obtain ⟨B3, hB3⟩ : ∃ B3, ((bc.set px (.cells [.lit (.int .i64 (next : Int))])).set X (.cells (slC x))).set idl R1 = B3 := ⟨_, rfl⟩
        have hB3p : B3 px = some (.cells [.lit (.int .i64 (next : Int))]) := by rw [← hB3, set_ne _ _ npx, set_ne _ _ npX, set_at]
        have hX3 : B3 X = some (.cells (slC x)) := by rw [← hB3, set_ne _ _ (Ne.symm hXi), set_at]
        have hB3i : B3 idl = some R1 := by rw [← hB3, set_at]
        have hB3l : HS.le (bc.set px (.cells [.lit (.int .i64 (next : Int))])) B3 := by
          rw [← hB3]
          refine le_set_free _ (le_set_new _ (le_refl' _) bX) hidn
        have hB3b : HS.le bb B3 := HS.le.trans hBle (HS.le.trans (hleS _) hB3l)
        rw [hB3] at hP3 hb3
        have hi3 : u3 idl = some R1 := hb3 _ _ hB3i
        simp only [ldp u3 (HS.le.trans hB3b hb3) 0, List.getElem?_cons_zero]
        rw [show vLenT (Try.prog.underlying 28) u3 A1 = some (.lit (.int .i64 (ms.length : Int))) from r1'.len _ _]
        simp only
        refine HLoop.ghost (σ := Nat) (fun k => [.lit (.int .i64 (k : Int))]) (fun k v => k ≤ ms.length ∧ v = u3 ∧ ∀ j, j < k → hasT ms x.1 ((next + j) % ms.length) = false) (fun k => ms.length - k) 0 rfl ⟨Nat.zero_le _, rfl, fun j hj => absurd hj (Nat.not_lt_zero _)⟩ ?_
        rintro k v K30 ⟨hk, rfl, hno⟩ hK30
        simp only [List.headD_cons, lss_i]
        by_cases hkm : k < ms.length
        · have hmod : (next + k) % ms.length < ms.length := Nat.mod_lt _ (by omega)
          have lpx : vLoad v (.ptr px 0) 1 false = some (.lit (.int .i64 (next : Int))) := load_cell 0 1 (hb3 _ _ hB3p)
          obtain ⟨qm, x2, y2⟩ := r1'.at_ memC_len m0 hmod
          have lm := (y2 v (HS.le.trans hB3b hb3)).2 1 (by omega) 1
          have lX : vLoad v (.ptr X (0 + 0)) 1 false = some (strV x.1) := load_cell 0 1 (hb3 _ _ hX3)
          simp only [hkm, decide_true, lpx, add_i (show next + k < 9223372036854775808 by omega), ldp v (HS.le.trans hB3b hb3) 0, List.getElem?_cons_zero]
          rw [show vLenT (Try.prog.underlying 28) v A1 = some (.lit (.int .i64 (ms.length : Int))) from r1'.len _ _]
          simp only [rem_i (show 0 < ms.length by omega), x2, lm]
          rw [show (memC (ms.getD ((next + k) % ms.length) m0))[1]? = some (rowV strC 1 (ms.getD ((next + k) % ms.length) m0).tp) from rfl]
          simp only [lX]
          have hmt := htp (ms.getD ((next + k) % ms.length) m0) (pm.mem_iff.1 (by rw [getD_get _ _ hmod]; exact List.getElem_mem hmod))
          refine (contains28 _ x.1 v hmt).mono ?_
          rintro r w ⟨rfl, rfl⟩
          cases hc : ((ms.getD ((next + k) % ms.length) m0).tp.getD []).contains x.1 with
          | false =>
            simp only
            rw [wlit1, add_i (show k + 1 < 9223372036854775808 by omega)]
            refine hK30 (k + 1) _ _ rfl ⟨hkm, rfl, fun j hj => ?_⟩ (by omega)
            rcases Nat.lt_succ_iff_lt_or_eq.1 hj with hj | rfl
            · exact hno j hj
            · exact hc
          | true =>
            have hpk := pick_some hkm hno hc
            have lA : vLoad w (.ptr p 0) 3 true = some (.agg [A1, A2, SH]) := load_all rfl (hb3 _ _ (hB3b _ _ hp0))
            have lS : vLoad w (.ptr X 0) 2 true = some (.agg (slC x)) := load_all rfl (hb3 _ _ hX3)
            simp only [lA, lS]
            have hgl : (giveA (ms.map fun m => ((m.id, []) : By × List Slot)) asg).length = ms.length := by rw [giveA_len, List.length_map]
            refine (gives29P hP3 hb3 A1 A2 (i := (next + k) % ms.length) (by rw [hgl]; exact hmod) x ?_).mono ?_
            · have h1 := giveA_sl asg (ms.map fun m => ((m.id, []) : By × List Slot)) ((next + k) % ms.length)
              have h2 : (((ms.map fun m => ((m.id, []) : By × List Slot)).getD ((next + k) % ms.length) d0).2).length = 0 := by
                simp only [List.getD, List.getElem?_map]
                cases ms[(next + k) % ms.length]? <;> rfl
              omega
            · rintro r' w4 ⟨hP4, hb4⟩
              rw [wlit1, add_i (show (next + k) % ms.length + 1 < 9223372036854775808 by omega)]
              have e4 := hb4 _ _ hB3p
              simp only [hStore, hc_int, e4]
              refine ⟨by trivial, by simp, fun y hy => by rw [List.mem_singleton.1 hy]; rfl, ?_⟩
              rw [show putCells [HV.lit (.int .i64 (next : Int))] 0 [.lit (.int .i64 (((next + k) % ms.length + 1 : Nat) : Int))] = [.lit (.int .i64 (((next + k) % ms.length + 1 : Nat) : Int))] from rfl]
              have hs : roundStep ms (next, asg) x = ((next + k) % ms.length + 1, asg ++ [((next + k) % ms.length, x)]) := by
                unfold roundStep
                simp only [hpk]
              rw [hs] at kn
              refine kn _ ?_ ⟨?_, ?_⟩
              · rw [set_ne _ _ (Ne.symm npx)]
                exact hb4 _ _ hB3i
              · exact le_set_val (HS.le.trans hB3l hb4)
              · have := (hP4.base hB3l).put (k := px) (by rw [set_at]; exact fun h => by cases h) (.cells [.lit (.int .i64 (((next + k) % ms.length + 1 : Nat) : Int))])
                rw [giveA_app]
                refine this.rebase fun j hj => ?_
                have hjp : j ≠ px := by rintro rfl; rw [set_at] at hj; cases hj
                rw [set_ne _ _ hjp] at hj ⊢
                exact hj
        · obtain rfl : k = ms.length := by omega
          simp only [hkm, decide_false]
          have hpk := pick_no hno
          have hs : roundStep ms (next, asg) x = (next, asg) := by
            unfold roundStep
            simp only [hpk]
          rw [hs] at kn
          exact kn _ hi3 ⟨HS.le.trans hB3l hb3, hP3.base hB3l⟩
end Go.Proofs.Ytkcgokkgefgcjaa.AS
end
section
namespace Go.Proofs.Ytkcgokkgefgcjaa.AS
open Go.Proofs.Ytkcgokkgefgcjaa.H Go.Proofs.Ytkcgokkgefgcjaa.A0
set_option linter.unusedVariables false
set_option linter.unusedSimpArgs false
set_option maxRecDepth 100000
section
variable {α : Type} (nm : α → By)
/-- Where a value goes in. -/
def insK (x : α) (out : List α) : Nat → Nat
  | 0 => 0
  | k + 1 => match out[k]? with
    | some y => if bl_ (nm x) (nm y) = true then insK x out k else k + 1
    | none => k + 1
def insA (x : α) (out : List α) : List α := out.take (insK nm x out out.length) ++ x :: out.drop (insK nm x out out.length)
def isort (l : List α) : List α := l.foldl (fun out x => insA nm x out) []
theorem isort_snoc (l : List α) (x : α) : isort nm (l ++ [x]) = insA nm x (isort nm l) := by simp [isort]
theorem insK_le (x : α) (out : List α) : ∀ k, insK nm x out k ≤ k
  | 0 => Nat.le_refl _
  | k + 1 => by
    simp only [insK]
    split
    · split
      · exact Nat.le_succ_of_le (insK_le x out k)
      · exact Nat.le_refl _
    · exact Nat.le_refl _
theorem insA_perm (x : α) (out : List α) : (insA nm x out).Perm (x :: out) := by
  unfold insA
  refine List.perm_middle.trans (List.Perm.cons x ?_)
  rw [List.take_append_drop]
theorem isort_perm (l : List α) : (isort nm l).Perm l := by
  refine snoc_ind (p := fun l => (isort nm l).Perm l) (List.Perm.refl _) ?_ l
  intro l x ih
  rw [isort_snoc]
  refine (insA_perm nm x _).trans ((List.Perm.cons x ih).trans ?_)
  exact (List.perm_append_singleton x l).symm
theorem insK_gt (x : α) (out : List α) : ∀ k, k ≤ out.length → (∀ j y, insK nm x out k ≤ j → j < k → out[j]? = some y → bl_ (nm x) (nm y) = true) ∧ (∀ y, insK nm x out k ≠ 0 → out[insK nm x out k - 1]? = some y → bl_ (nm x) (nm y) = false)
  | 0, _ => ⟨fun j y _ h => absurd h (Nat.not_lt_zero _), fun y h => absurd rfl h⟩
  | k + 1, hk => by
    have hlt : k < out.length := hk
    simp only [insK, List.getElem?_eq_getElem hlt]
    obtain ⟨h1, h2⟩ := insK_gt x out k (by omega)
    split
    · rename_i hb
      refine ⟨fun j y hj hjk hy => ?_, h2⟩
      rcases Nat.lt_succ_iff_lt_or_eq.1 hjk with h | rfl
      · exact h1 j y hj h hy
      · rw [List.getElem?_eq_getElem hlt] at hy; cases hy; exact hb
    · rename_i hb
      refine ⟨fun j y hj hjk hy => by omega, fun y _ hy => ?_⟩
      rw [Nat.add_sub_cancel, List.getElem?_eq_getElem hlt] at hy
      cases hy
      simpa using hb
theorem insA_sorted (x : α) (out : List α) (h : out.Pairwise fun a b => bl_ (nm b) (nm a) = false) : (insA nm x out).Pairwise fun a b => bl_ (nm b) (nm a) = false := by
  have hO := ordr_name nm
  obtain ⟨h1, h2⟩ := insK_gt nm x out out.length (Nat.le_refl _)
  have hle := insK_le nm x out out.length
  unfold insA
  generalize insK nm x out out.length = k at *
  rw [List.pairwise_append, List.pairwise_cons]
  have hd : ∀ y ∈ out.drop k, bl_ (nm x) (nm y) = true := fun y hy => by
    obtain ⟨j, hj, rfl⟩ := List.mem_iff_getElem.1 hy
    rw [List.getElem_drop]
    have : k + j < out.length := by simp at hj; omega
    exact h1 (k + j) _ (by omega) this (List.getElem?_eq_getElem this)
  have hx : ∀ y ∈ out.take k, bl_ (nm x) (nm y) = false := fun y hy => by
    obtain ⟨j, hj, rfl⟩ := List.mem_iff_getElem.1 hy
    rw [List.getElem_take]
    have hjk : j < k := by simp at hj; omega
    have hk1 : k - 1 < out.length := by omega
    have h3 := h2 _ (by omega) (List.getElem?_eq_getElem hk1)
    by_cases hj1 : j = k - 1
    · subst hj1; exact h3
    · have h4 := List.pairwise_iff_getElem.1 h j (k - 1) (by omega) hk1 (by omega)
      exact hO.2 _ _ _ h4 h3
  refine ⟨h.sublist (List.take_sublist _ _), ⟨fun y hy => bl_asymm (hd y hy), h.sublist (List.drop_sublist _ _)⟩, fun a ha b hb => ?_⟩
  rcases List.mem_cons.1 hb with rfl | hb
  · exact hx a ha
  · cases e : bl_ (nm b) (nm a) with
    | false => rfl
    | true =>
      have := bl_trans _ _ _ (hd b hb) e
      rw [hx a ha] at this; cases this
theorem isort_sorted (l : List α) : (isort nm l).Pairwise fun a b => bl_ (nm b) (nm a) = false := by
  refine snoc_ind (p := fun l => (isort nm l).Pairwise fun a b => bl_ (nm b) (nm a) = false) List.Pairwise.nil ?_ l
  intro l x ih
  rw [isort_snoc]
  exact insA_sorted nm x _ ih
theorem isort_len (l : List α) : (isort nm l).length = l.length := (isort_perm nm l).length_eq
end
abbrev isM (l : List Mem) : List Mem := isort Mem.id l
abbrev isT (l : List Top) : List Top := isort Top.name l
/-- The shares. -/
def shD (rg : List Mem → List Top → List (Nat × Slot)) (l : List Mem) (tl : List Top) : DD := giveA ((isM l).map fun m => (m.id, [])) (rg (isM l) (isT tl))
theorem postU {rg : List Mem → List Top → List (Nat × Slot)} {l : List Mem} {tl : List Top} {s u : HS} {v : HV} (h : postRange rg l tl s v u) :
    ∃ v' u', UpL [v] u [v'] u' ∧ u' = s ∧ ((¬ okA l tl ∧ v' = .tup [nilV, .lit (.int .i64 1)]) ∨ (okA l tl ∧ ∃ o : Option DD, o.getD [] = shD rg l tl ∧ v' = .tup [rowV shE 2 o, .lit (.int .i64 0)])) := by
  obtain ⟨hle, h⟩ := h
  rcases h with ⟨h1, rfl⟩ | ⟨h1, ms, ts, SH, pm, pt, sm, st, rfl, hP⟩
  · exact ⟨_, s, UpL.le _ hle, rfl, .inl ⟨h1, rfl⟩⟩
  · obtain ⟨o, ho, hu⟩ := hP.up hle (fun v => [.tup [v, .lit (.int .i64 0)]]) (fun q n f p cs => rfl)
    refine ⟨_, s, hu, rfl, .inr ⟨h1, o, ?_, rfl⟩⟩
    have e1 : isM l = ms := sorted_is Mem.id ((isort_perm Mem.id l).trans pm.symm) (isort_sorted Mem.id l) sm
    have e2 : isT tl = ts := sorted_is Top.name ((isort_perm Top.name tl).trans pt.symm) (isort_sorted Top.name tl) st
    rw [ho, shD, e1, e2]
theorem range13U {s : HS} {A B : HV} {l : List Mem} {tl : List Top} (hA : RowV s 2 A l.length (rows memC l)) (hB : RowV s 2 B tl.length (rows topC tl)) (hl : l.length ≤ 1000000) (htl : tl.length ≤ 1000000) (htp : ∀ m ∈ l, (m.tp.getD []).length ≤ 1000000000) :
    HC Try.prog 13 [A, B] s (fun v u => u = s ∧ ((¬ okA l tl ∧ v = .tup [nilV, .lit (.int .i64 1)]) ∨ (okA l tl ∧ ∃ o : Option DD, o.getD [] = shD rangeA l tl ∧ v = .tup [rowV shE 2 o, .lit (.int .i64 0)]))) :=
  HC.up ((range13 hA hB hl htl htp).mono fun v u h => postU h)
theorem round10U {s : HS} {A B : HV} {l : List Mem} {tl : List Top} (hA : RowV s 2 A l.length (rows memC l)) (hB : RowV s 2 B tl.length (rows topC tl)) (hl : l.length ≤ 1000000) (htl : tl.length ≤ 1000000) (htp : ∀ m ∈ l, (m.tp.getD []).length ≤ 1000000000) :
    HC Try.prog 10 [A, B] s (fun v u => u = s ∧ ((¬ okA l tl ∧ v = .tup [nilV, .lit (.int .i64 1)]) ∨ (okA l tl ∧ ∃ o : Option DD, o.getD [] = shD roundA l tl ∧ v = .tup [rowV shE 2 o, .lit (.int .i64 0)]))) :=
  HC.up ((round10 hA hB hl htl htp).mono fun v u h => postU h)
theorem idx_rowV {α : Type} {enc : α → List HV} {sz : Nat} (h : ∀ x, (enc x).length = sz) (z : α) (o : Option (List α)) {i : Nat} (hi : i < (o.getD []).length) : vIdx sz (rowV enc sz o) (.lit (.int .i64 (i : Int))) = some (.elt (enc ((o.getD []).getD i z)) 0) := by
  cases o with
  | none => simp at hi
  | some l => exact idx_rowL h z l .i64 hi
theorem neq_n (a b : Nat) : vCmp (Try.prog.underlying 3) .neq (.lit (.int .i64 (a : Int))) (.lit (.int .i64 (b : Int))) = some (.lit (.bool (!decide (a = b)))) := by
  simp only [vCmp, vBin, if_true, Option.some.injEq, HV.lit.injEq, Value.bool.injEq, bne]
  congr 1
  rw [Bool.eq_iff_iff]
  simp only [beq_iff_eq, decide_eq_true_eq]
  omega
theorem eql_s (a b : By) : vCmp (Try.prog.underlying 9) .eql (strV a) (strV b) = some (.lit (.bool (decide (a = b)))) := by
  simp only [vCmp, vBin, strV, toL, Option.some.injEq, HV.lit.injEq, Value.bool.injEq]
  rw [Bool.eq_iff_iff]
  simp
theorem neq_s (a b : By) : vCmp (Try.prog.underlying 9) .neq (strV a) (strV b) = some (.lit (.bool (!decide (a = b)))) := by
  simp only [vCmp, vBin, strV, toL, Option.some.injEq, HV.lit.injEq, Value.bool.injEq]
  congr 1
  rw [Bool.eq_iff_iff]
  simp
theorem inc_i {i n : Nat} (hi : i < n) (hn : n ≤ 9223372036854775807) : vBin .add (.lit (.int .i64 (i : Int))) (.lit (.int .i64 1)) = some (.lit (.int .i64 ((i + 1 : Nat) : Int))) := by
  rw [wlit1, add_i (by omega)]
theorem slV_row (l : List Slot) : ∃ o : Option (List Slot), slV l = rowV slC 2 o ∧ o.getD [] = l := by
  cases l with
  | nil => exact ⟨none, rfl, rfl⟩
  | cons x l => exact ⟨some (x :: l), by simp [slV, accV, rowV, rowL], rfl⟩
end Go.Proofs.Ytkcgokkgefgcjaa.AS
end
section
namespace Go.Proofs.Ytkcgokkgefgcjaa.AS
open Go.Proofs.Ytkcgokkgefgcjaa.H Go.Proofs.Ytkcgokkgefgcjaa.A0
set_option linter.unusedVariables false
set_option linter.unusedSimpArgs false
set_option maxRecDepth 100000
theorem hBS_in {s : HS} {sz n : Nat} {zs cs : List HV} {parts : List (Nat × HV)} {K : HV → HS → Prop} (hf : hfill (fun i => some (i * sz, sz)) zs parts = some cs) (h : ∀ id, s id = none → K (.view id 0 sz n true) (s.set id (.cells cs))) : hBS s sz n zs parts K := by
  unfold hBS
  rw [hf]
  exact h
theorem gtr_n (a b : Int) : vBin .gtr (.lit (.int .i64 a)) (.lit (.int .i64 b)) = some (.lit (.bool (decide (b < a)))) := rfl
theorem lss_n (a b : Int) : vBin .lss (.lit (.int .i64 a)) (.lit (.int .i64 b)) = some (.lit (.bool (decide (a < b)))) := rfl
theorem sub_n {a b : Int} (h : -9223372036854775808 ≤ a - b) (h' : a - b < 9223372036854775808) : vBin .sub (.lit (.int .i64 a)) (.lit (.int .i64 b)) = some (.lit (.int .i64 (a - b))) := by
  simp only [vBin, if_true, w64 h h']
/-- What the statement looks at. -/
structure Small (l : List Mem) (t : List Top) : Prop where
  nl : l.length ≤ 1000
  tp : ∀ m ∈ l, (m.tp.getD []).length ≤ 1000
  nt : t.length ≤ 1000
  parts : ∀ x ∈ t, x.parts ≤ 60 ∨ 1000 < x.parts
structure InSize (l : List Mem) (t : List Top) : Prop where
  nl : l.length ≤ 9223372036854775807
  ids : ∀ m ∈ l, m.id.length ≤ 9223372036854775807
  tp : ∀ m ∈ l, (m.tp.getD []).length ≤ 9223372036854775807 ∧ ∀ x ∈ m.tp.getD [], x.length ≤ 9223372036854775807
  nt : t.length ≤ 9223372036854775807
  name : ∀ x ∈ t, x.name.length ≤ 9223372036854775807
theorem getD_memD {α : Type} (z : α) {l : List α} {i : Nat} (h : i < l.length) : l.getD i z ∈ l := by rw [getD_get _ _ h]; exact List.getElem_mem h
end Go.Proofs.Ytkcgokkgefgcjaa.AS
end
section
namespace Go.Proofs.Ytkcgokkgefgcjaa.AS
open Go.Proofs.Ytkcgokkgefgcjaa.H Go.Proofs.Ytkcgokkgefgcjaa.A0
set_option linter.unusedVariables false
set_option linter.unusedSimpArgs false
set_option maxRecDepth 100000
theorem clone35 (o : Option (List Slot)) (s : HS) (hl : (o.getD []).length ≤ 1000000000) : HC Try.prog 35 [rowV slC 2 o] s (fun v t => ∃ o' : Option (List Slot), UpL [v] t [rowV slC 2 o'] s ∧ o'.getD [] = o.getD []) := by
  cases o with
  | none =>
    refine HC35 ?_
    unfold c35
    exact ⟨none, UpL.refl _ _, rfl⟩
  | some l =>
    have hgo : HC Try.prog 35 [.ne 2] s (fun v t => l = [] → ∃ o' : Option (List Slot), UpL [v] t [rowV slC 2 o'] s ∧ o'.getD [] = []) := by
      refine HC35 ?_
      unfold c35
      rw [show vCmp (Try.prog.underlying 45) .eql (.ne 2) (.lit (.slice none 0 0)) = some (.lit (.bool false)) from rfl]
      simp only [bindO, hcond]
      refine hBS0 fun id hid => ?_
      refine app_empty (b := s) (le_set_new _ (le_refl' s) hid) hid (set_at _ _ _) (x := .ne 2) (xs := []) (k := 0) rfl rfl rfl ⟨by omega, by omega⟩ fun A' t' k1 k2 _ => ⟨some [], acc0_upL k1 k2, rfl⟩
    cases l with
    | nil =>
      refine HC.nilOr (pre := []) (post := []) ?_ ?_
      · refine HC35 ?_
        unfold c35
        exact ⟨some [], UpL.trans (up_lit_nil 2 (le_refl' s)) (UpL.refl _ _), rfl⟩
      · exact hgo.mono fun v t h => h rfl
    | cons x l =>
      refine HC35 ?_
      unfold c35
      rw [show vCmp (Try.prog.underlying 45) .eql (rowV slC 2 (some (x :: l))) (.lit (.slice none 0 0)) = some (.lit (.bool false)) from rfl]
      simp only [bindO, hcond]
      refine hBS0 fun id hid => ?_
      simp only [Option.getD_some] at hl
      refine app_empty (b := s) (le_set_new _ (le_refl' s) hid) hid (set_at _ _ _) (x := rowV slC 2 (some (x :: l))) (xs := rows slC (x :: l)) (k := (x :: l).length) (lcells_rowL _ _) rfl (rows_len slC_len _) ⟨by omega, by omega⟩ fun A' t' k1 k2 => ⟨some (x :: l), acc0_upL k1 k2, rfl⟩
def ofD (D : DD) (k : By) : List Slot := match D.find? (fun d => d.1 == k) with
  | some d => d.2
  | none => []
theorem shE_l0 (s : HS) (d : By × List Slot) : vLoad s (.elt (shE d) 0) 2 true = some (.agg (shE d)) := rfl
theorem find_none_take {α : Type} {p : α → Bool} {l : List α} {i : Nat} (z : α) (hi : i < l.length) (h : ∀ x ∈ l.take i, p x = false) (ht : p (l.getD i z) = true) : l.find? p = some (l.getD i z) := by
  have e : l.find? p = (l.take i ++ l.drop i).find? p := by rw [List.take_append_drop]
  rw [e, List.find?_append, List.find?_eq_none.2 fun x hx => by rw [h x hx]; simp]
  rw [drop_cons' z l hi, List.find?_cons, ht]
  rfl
theorem of21 (o : Option DD) (k : By) (s : HS) (hl : (o.getD []).length ≤ 1000000000) (hs : ∀ d ∈ o.getD [], d.2.length ≤ 1000000000) : HC Try.prog 21 [rowV shE 2 o, strV k] s (fun v s' => s' = s ∧ ∃ o' : Option (List Slot), v = rowV slC 2 o' ∧ o'.getD [] = ofD (o.getD []) k) := by
  refine HC.up (HC21 ?_)
  unfold c21
  have i1 := fun i hi => idx_rowV shE_len d0 o (i := i) hi
  rw [show vLenT (Try.prog.underlying 26) s (rowV shE 2 o) = some (.lit (.int .i64 (((o.getD []).length : Nat) : Int))) from len_rowV o s]
  simp only [bindO]
  generalize o.getD [] = D at *
  refine HLoop.ghost (σ := Nat) (fun i => [.lit (.int .i64 (i : Int))]) (fun i t => i ≤ D.length ∧ HS.le s t ∧ ∀ d ∈ D.take i, (d.1 == k) = false) (fun i => D.length - i) 0 rfl ⟨Nat.zero_le _, le_refl' s, by simp⟩ ?_
  rintro i t K ⟨h1, h2, h3⟩ hK
  simp only [List.headD_cons, lss_i]
  by_cases hi : i < D.length
  · have hts := take_succ' d0 D hi
    have hm := hs _ (getD_memD d0 hi)
    have hf := fun h => find_none_take (p := fun d => d.1 == k) d0 hi h3 h
    simp only [hi, decide_true, hcond, i1 i hi, shE_l0]
    generalize D.getD i d0 = d at *
    refine new_store rfl rfl (fun x hx => shE_one [d] x (by rw [rows_one]; exact hx)) fun X hX => ?_
    have l1 : vLoad (t.set X (.cells (shE d))) (.ptr X (0 + 0)) 1 false = some (strV d.1) := load_cell 0 1 (set_at _ _ _)
    have l2 : vLoad (t.set X (.cells (shE d))) (.ptr X (0 + 1)) 1 false = some (slV d.2) := load_cell 1 1 (set_at _ _ _)
    have hle := le_set_new (.cells (shE d)) h2 hX
    simp only [vField, l1, l2, eql_s]
    by_cases he : d.1 = k
    · simp only [he, decide_true]
      obtain ⟨o', e1, e2⟩ := slV_row d.2
      rw [e1]
      refine (clone35 o' _ (by rw [e2]; exact hm)).mono ?_
      rintro v u ⟨o2, g1, g2⟩
      refine ⟨_, _, g1.trans (UpL.le _ hle), rfl, o2, rfl, ?_⟩
      rw [g2, e2, ofD, hf (by simp [he])]
    · simp only [he, decide_false, inc_i hi (by omega)]
      refine hK (i + 1) _ _ rfl ⟨hi, hle, fun x hx => ?_⟩ (by omega)
      rw [hts] at hx
      rcases List.mem_append.1 hx with hx | hx
      · exact h3 x hx
      · rw [List.mem_singleton.1 hx]; simpa using he
  · obtain rfl : i = D.length := by omega
    rw [List.take_length] at h3
    simp only [hi, decide_false, hcond]
    refine ⟨_, s, UpL.le _ h2, rfl, none, rfl, ?_⟩
    rw [ofD, List.find?_eq_none.2 fun x hx => by rw [h3 x hx]; simp]
    rfl
def u8V (l : By) : List HV := l.map fun c => .lit (.int .u8 (c.toNat : Int))
theorem bytesOf_u8V : ∀ l : By, bytesOf (u8V l) = some l
  | [] => rfl
  | c :: l => by
    have := bytesOf_u8V l
    unfold bytesOf at this ⊢
    simp only [u8V, List.map_cons] at this ⊢
    rw [List.mapM_cons]
    simp only [byteOfHV]
    rw [this]
    simp
theorem u8w {x : Int} (h : 0 ≤ x) (h' : x < 256) : IntKind.u8.wrap x = x := by rw [IntKind.wrap_u8]; omega
end Go.Proofs.Ytkcgokkgefgcjaa.AS
end
