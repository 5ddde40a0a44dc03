/- The H layer, 16: rows that grow, rows of records, and loops over them. -/
import Derived.Test.YtecnfekcflfihaaH15
namespace Go.Proofs.Ytecnfekcflfihaa.H
open Go.RowKit Go.MapKept
set_option linter.unusedVariables false
set_option linter.unusedSimpArgs false
variable {P : Program} {s : HS}

theorem w64 {x : Int} (h : -9223372036854775808 ≤ x) (h' : x < 9223372036854775808) : IntKind.i64.wrap x = x := by rw [IntKind.wrap_i64]; omega
theorem take_succ' {α : Type} (z : α) (l : List α) {i : Nat} (h : i < l.length) : l.take (i + 1) = l.take i ++ [l.getD i z] := by
  rw [List.take_succ_eq_append_getElem h]
  simp [List.getD, h]
theorem drop_cons' {α : Type} (z : α) (l : List α) {i : Nat} (h : i < l.length) : l.drop i = l.getD i z :: l.drop (i + 1) := by
  rw [List.drop_eq_getElem_cons h]
  simp [List.getD, h]
theorem getD_mem {α : Type} {z : α} {l : List α} {i : Nat} (h : i < l.length) : l.getD i z ∈ l := by
  rw [List.getD, List.getElem?_eq_getElem h]; exact List.getElem_mem h
abbrev nilV : HV := .lit (.slice none 0 0)
abbrev iV (n : Int) : HV := .lit (.int .i64 n)
abbrev bV (b : Bool) : HV := .lit (.bool b)

/-- Rows of values of some cells. -/
def rows {α : Type} (enc : α → List HV) (l : List α) : List HV := l.flatMap enc
theorem rows_nil {α : Type} (enc : α → List HV) : rows enc [] = [] := rfl
theorem rows_cons {α : Type} (enc : α → List HV) (x : α) (l : List α) : rows enc (x :: l) = enc x ++ rows enc l := by simp [rows]
theorem rows_app {α : Type} (enc : α → List HV) (a b : List α) : rows enc (a ++ b) = rows enc a ++ rows enc b := by simp [rows]
theorem rows_one {α : Type} (enc : α → List HV) (x : α) : rows enc [x] = enc x := by simp [rows]
theorem rows_len {α : Type} {enc : α → List HV} {sz : Nat} (h : ∀ x, (enc x).length = sz) (l : List α) : (rows enc l).length = l.length * sz := by
  induction l with
  | nil => simp [rows]
  | cons x r ih => rw [rows_cons, List.length_append, ih, h, List.length_cons, Nat.add_mul]; omega
theorem rows_drop {α : Type} {enc : α → List HV} {sz : Nat} (h : ∀ x, (enc x).length = sz) : ∀ (l : List α) (i : Nat), (rows enc l).drop (i * sz) = rows enc (l.drop i)
  | l, 0 => by simp
  | [], i + 1 => by simp [rows]
  | x :: l, i + 1 => by
    rw [rows_cons, List.drop_append, Nat.add_mul, Nat.one_mul, h, List.drop_of_length_le (by rw [h]; omega), List.nil_append, Nat.add_sub_cancel, rows_drop h l i, List.drop_succ_cons]
theorem rows_take {α : Type} {enc : α → List HV} {sz : Nat} (h : ∀ x, (enc x).length = sz) : ∀ (l : List α) (i : Nat), (rows enc l).take (i * sz) = rows enc (l.take i)
  | l, 0 => by simp [rows]
  | [], i + 1 => by simp [rows]
  | x :: l, i + 1 => by
    rw [rows_cons, List.take_append, Nat.add_mul, Nat.one_mul, h, List.take_of_length_le (by rw [h]; omega), Nat.add_sub_cancel, rows_take h l i, List.take_succ_cons, rows_cons]
theorem rows_idx {α : Type} {enc : α → List HV} {sz : Nat} (h : ∀ x, (enc x).length = sz) (z : α) (l : List α) (i : Nat) (hi : i < l.length) : ((rows enc l).drop (i * sz)).take sz = enc (l.getD i z) := by
  rw [rows_drop h, drop_cons' z l hi, rows_cons, List.take_append, List.take_of_length_le (by rw [h]; exact Nat.le_refl _), h, Nat.sub_self, List.take_zero, List.append_nil]
theorem rows_all {α : Type} {enc : α → List HV} {sz : Nat} (h : ∀ x, (enc x).length = sz) (l : List α) : (rows enc l).take (l.length * sz) = rows enc l := List.take_of_length_le (by rw [rows_len h]; exact Nat.le_refl _)
theorem rows_ones {α : Type} {enc : α → List HV} (h : ∀ x, ∀ y ∈ enc x, hone y = true) (l : List α) : ∀ y ∈ rows enc l, hone y = true := by
  intro y hy
  obtain ⟨x, _, hx⟩ := List.mem_flatMap.1 hy
  exact h x y hx
def rowL {α : Type} (enc : α → List HV) (sz : Nat) (l : List α) : HV := .list sz l.length (rows enc l) false
def rowV {α : Type} (enc : α → List HV) (sz : Nat) : Option (List α) → HV
  | none => nilV
  | some l => rowL enc sz l
theorem hc_rowV {α : Type} (enc : α → List HV) (sz : Nat) (o : Option (List α)) : hcells (rowV enc sz o) = some [rowV enc sz o] := by cases o <;> rfl
theorem ho_rowV {α : Type} (enc : α → List HV) (sz : Nat) (o : Option (List α)) : hone (rowV enc sz o) = true := by cases o <;> rfl
theorem hc_rowL {α : Type} (enc : α → List HV) (sz : Nat) (o : List α) : hcells (rowL enc sz o) = some [rowL enc sz o] := rfl
theorem ho_rowL {α : Type} (enc : α → List HV) (sz : Nat) (o : List α) : hone (rowL enc sz o) = true := rfl
theorem len_rowL {α : Type} {enc : α → List HV} {sz e : Nat} (l : List α) (s : HS) : vLenT (some (.slice e)) s (rowL enc sz l) = some (.lit (.int .i64 l.length)) := rfl
theorem len_rowV {α : Type} {enc : α → List HV} {sz e : Nat} (o : Option (List α)) (s : HS) : vLenT (some (.slice e)) s (rowV enc sz o) = some (.lit (.int .i64 ((o.getD []).length : Nat))) := by cases o <;> rfl
theorem idx_rowL {α : Type} {enc : α → List HV} {sz : Nat} (h : ∀ x, (enc x).length = sz) (z : α) (l : List α) {i : Nat} (k : IntKind) (hi : i < l.length) : vIdx sz (rowL enc sz l) (.lit (.int k i)) = some (.elt (enc (l.getD i z)) 0) := by
  have h1 : (i : Int) < (l.length : Int) := by omega
  simp [vIdx, rowL, h1, rows_idx h z l i hi]
theorem slice_rowL {α : Type} {enc : α → List HV} {sz : Nat} (h : ∀ x, (enc x).length = sz) (l : List α) {lo hi : Nat} (k : IntKind) (hi' : hi ≤ l.length) (hlo : lo ≤ hi) :
    vSlice sz (rowL enc sz l) (some (.lit (.int k lo))) (some (.lit (.int k hi))) none = some (rowL enc sz ((l.take hi).drop lo)) := by
  have h1 : (lo : Int) ≤ hi := by omega
  have h2 : (hi : Int) ≤ (l.length : Int) := by omega
  have e : hi - lo = ((l.take hi).drop lo).length := by simp; omega
  have e2 : ((rows enc l).drop (lo * sz)).take ((hi - lo) * sz) = rows enc ((l.take hi).drop lo) := by
    rw [rows_drop h, rows_take h, List.take_drop, show lo + (hi - lo) = hi by omega]
  rw [e] at e2
  simp only [vSlice, rowL, cutAt, intAt, if_true, Option.map_some, h1, h2, true_and, Int.natCast_nonneg, Int.toNat_natCast, e, e2, Option.isNone_some, Option.isNone_none, Bool.false_eq_true, false_implies, and_self, Bool.false_and, Bool.or_self]
theorem slice_rowL_hi {α : Type} {enc : α → List HV} {sz : Nat} (h : ∀ x, (enc x).length = sz) (l : List α) {hi : Nat} (k : IntKind) (hi' : hi ≤ l.length) :
    vSlice sz (rowL enc sz l) none (some (.lit (.int k hi))) none = some (rowL enc sz (l.take hi)) := slice_rowL h l (lo := 0) k hi' (Nat.zero_le _)
theorem slice_rowL_lo {α : Type} {enc : α → List HV} {sz : Nat} (h : ∀ x, (enc x).length = sz) (l : List α) {lo : Nat} (k : IntKind) (hlo : lo ≤ l.length) :
    vSlice sz (rowL enc sz l) (some (.lit (.int k lo))) none none = some (rowL enc sz (l.drop lo)) := by
  have e2 : ((rows enc l).drop (lo * sz)).take ((l.length - lo) * sz) = rows enc (l.drop lo) := by
    rw [rows_drop h, show l.length - lo = (l.drop lo).length by simp, rows_all h]
  have h1 : (lo : Int) ≤ (l.length : Int) := by omega
  simp only [vSlice, rowL, cutAt, intAt, if_true, Option.map_some, h1, true_and, Int.natCast_nonneg, Int.toNat_natCast, e2, Option.isNone_none, Option.isNone_some, and_self, Bool.false_and, Bool.or_self, Int.le_refl, implies_true, List.length_drop]
theorem lcells_rowL {α : Type} {enc : α → List HV} {sz : Nat} (l : List α) (s : HS) : lcells s sz (rowL enc sz l) = some (rows enc l) := by simp [lcells, rowL]
theorem lcells_rowV {α : Type} {enc : α → List HV} {sz : Nat} (o : Option (List α)) (s : HS) : lcells s sz (rowV enc sz o) = some (rows enc (o.getD [])) := by
  cases o with
  | none => simp [lcells, rowV, litCells, rows]
  | some l => simp [lcells, rowV, rowL]
theorem llen_rowL {α : Type} {enc : α → List HV} {sz : Nat} (l : List α) : llen (rowL enc sz l) = l.length := rfl
theorem llen_rowV {α : Type} {enc : α → List HV} {sz : Nat} (o : Option (List α)) : llen (rowV enc sz o) = (o.getD []).length := by cases o <;> rfl
theorem load_elt (s : HS) (cs : List HV) (n : Nat) (h : cs.length = n) : vLoad s (.elt cs 0) n true = some (.agg cs) := by
  subst h
  simp [vLoad, takeCells]
theorem load_elt1 (s : HS) (cs : List HV) (off n : Nat) : vLoad s (.elt cs off) n false = cs[off]? := rfl
theorem field_elt (cs : List HV) (off o : Nat) : vField off (.elt cs o) = some (.elt cs (o + off)) := rfl

theorem frzS_set (s : HS) {i j : Nat} (cs : List HV) (o : HObj) (h : j ≠ i) : frzS i cs (s.set j o) = (frzS i cs s).set j (frzO i cs o) := by
  funext k
  simp only [frzS, HS.set]
  by_cases h1 : k = i <;> by_cases h2 : k = j <;> simp_all
theorem frzS_same (s : HS) (i : Nat) (cs : List HV) (o : HObj) : frzS i cs (s.set i o) = frzS i cs s := by
  funext k
  simp only [frzS, HS.set]
  by_cases h1 : k = i <;> simp_all
theorem HC.frz {f : FuncId} {args : List HV} {Q : HV → HS → Prop} {id : Nat} {cs : List HV} (hs : s id = some (.cells cs)) (h : HC P f (args.map (frz2 id cs)) (frzS id cs s) Q) : HC P f args s Q := HC.upArgs (UpL.frz hs) h

-- rows that grow
def accId : HV → Option Nat
  | .view q _ _ _ _ => some q
  | _ => none
/-- A row that grows: nil, or an object of its own. -/
def Acc (b t : HS) (sz : Nat) (A : HV) (n : Nat) (cs : List HV) : Prop :=
  (A = nilV ∧ cs = [] ∧ n = 0) ∨ ∃ q, b q = none ∧ A = .view q 0 sz n false ∧ t q = some (.cells cs) ∧ cs.length = n * sz ∧ n ≠ 0
theorem Acc.nil (b t : HS) (sz : Nat) : Acc b t sz nilV 0 [] := .inl ⟨rfl, rfl, rfl⟩
theorem Acc.keep {b t t' : HS} {sz : Nat} {A : HV} {n : Nat} {cs : List HV} (h : Acc b t sz A n cs) (hk : ∀ q ob, accId A = some q → t q = some ob → t' q = some ob) : Acc b t' sz A n cs := by
  rcases h with h | ⟨q, h1, rfl, h3, h4⟩
  · exact .inl h
  · exact .inr ⟨q, h1, rfl, hk _ _ rfl h3, h4⟩
theorem Acc.one {b t : HS} {sz : Nat} {A : HV} {n : Nat} {cs : List HV} (h : Acc b t sz A n cs) : hone A = true := by
  rcases h with ⟨rfl, -⟩ | ⟨q, -, rfl, -⟩ <;> rfl
theorem Acc.hc {b t : HS} {sz : Nat} {A : HV} {n : Nat} {cs : List HV} (h : Acc b t sz A n cs) : hcells A = some [A] := by
  rcases h with ⟨rfl, -⟩ | ⟨q, -, rfl, -⟩ <;> rfl
theorem Acc.len {b t : HS} {sz : Nat} {A : HV} {n : Nat} {cs : List HV} (h : Acc b t sz A n cs) (e : Nat) (s : HS) : vLenT (some (.slice e)) s A = some (.lit (.int .i64 n)) := by
  rcases h with ⟨rfl, -, rfl⟩ | ⟨q, -, rfl, -⟩ <;> rfl
theorem Acc.free {b t : HS} {sz : Nat} {A : HV} {n : Nat} {cs : List HV} (h : Acc b t sz A n cs) {q : Nat} (hq : accId A = some q) : b q = none ∧ t q = some (.cells cs) := by
  rcases h with ⟨rfl, -, rfl⟩ | ⟨q', h1, rfl, h3, -⟩
  · cases hq
  · cases hq; exact ⟨h1, h3⟩
/-- Something new, elsewhere. -/
theorem Acc.new {b t : HS} {sz : Nat} {A : HV} {n : Nat} {cs : List HV} (h : Acc b t sz A n cs) {X : Nat} (o : HObj) (hX : t X = none) : Acc b (t.set X o) sz A n cs :=
  h.keep fun q ob _ hq => by rw [set_ne _ _ (ne_new hq hX)]; exact hq
theorem Acc.put {b t : HS} {sz : Nat} {A : HV} {n : Nat} {cs : List HV} (h : Acc b t sz A n cs) {X : Nat} (o : HObj) (hX : accId A ≠ some X) : Acc b (t.set X o) sz A n cs :=
  h.keep fun q ob hq hq2 => by rw [set_ne _ _ (by rintro rfl; exact hX hq)]; exact hq2
theorem Acc.app {b t : HS} {sz by_ : Nat} {A : HV} {n : Nat} {cs : List HV} {K : HV → HS → Prop} (h : Acc b t sz A n cs) (hb : HS.le b t) {x : HV} {xs : List HV} {k : Nat} (hx : lcells t sz x = some xs) (hk : llen x = k) (hl : xs.length = k * sz)
    (hroom : room (n + k) by_)
    (hK : ∀ A' t', Acc b t' sz A' (n + k) (cs ++ xs) → HS.le b t' → (∀ q ob, accId A ≠ some q → t q = some ob → t' q = some ob ∧ accId A' ≠ some q) → K A' t') : hAppend t sz by_ A x K := by
  unfold hAppend
  rw [hx]
  simp only [hk]
  rcases h with ⟨rfl, rfl, rfl⟩ | ⟨q, h1, rfl, h3, h4, h5⟩
  · simp only [isNilS, beq_self_eq_true, Bool.and_self, if_true]
    split
    · rename_i h0
      subst h0
      have : xs = [] := List.eq_nil_of_length_eq_zero (by rw [hl]; omega)
      subst this
      exact hK _ _ (.inl ⟨rfl, rfl, rfl⟩) hb fun q ob _ hq => ⟨hq, by rintro ⟨⟩⟩
    · rename_i h0
      refine ⟨by rw [Nat.zero_add] at hroom; exact hroom, fun id hid => ?_⟩
      refine hK _ _ (.inr ⟨id, none_of_le hb hid, by rw [Nat.zero_add], by rw [set_at]; rfl, by rw [List.nil_append, Nat.zero_add]; exact hl, by omega⟩) (le_set_new _ hb hid) fun q ob _ hq => ?_
      have := ne_new hq hid
      exact ⟨by rw [set_ne _ _ this]; exact hq, by rintro ⟨⟩; exact this rfl⟩
  · simp only [h3]
    refine ⟨by trivial, by rw [h4]; omega, ?_⟩
    simp only [Bool.false_eq_true, if_false]
    refine ⟨by rw [h4]; omega, hroom, fun id hid => ?_⟩
    have hne := ne_new h3 hid
    refine hK _ _ (.inr ⟨id, none_of_le hb hid, rfl, by rw [set_at]; rfl, by rw [List.length_append, h4, hl, Nat.add_mul], by omega⟩) ?_ ?_
    · intro k ob hk
      have hkq : k ≠ q := by rintro rfl; rw [h1] at hk; cases hk
      have hk1 := hb k ob hk
      rw [set_ne _ _ (ne_new hk1 hid), del_ne _ hkq]
      exact hk1
    · intro k ob hk hk1
      have hkq : k ≠ q := by rintro rfl; exact hk rfl
      have := ne_new hk1 hid
      exact ⟨by rw [set_ne _ _ this, del_ne _ hkq]; exact hk1, by rintro ⟨⟩; exact this rfl⟩
/-- One more is put behind a row that grows. -/
theorem Acc.app1W {b t : HS} {sz by_ : Nat} {A : HV} {n : Nat} {cs zs : List HV} {W : HS → Prop} {K : HV → HS → Prop} (h : Acc b t sz A n cs) (hb : HS.le b t) {x : HV} {vs : List HV} (hx : hcells x = some vs) (hv : vs.length = sz) (hz : zs.length = sz)
    (hroom : room (n + 1) by_) (hW : ∀ id, t id = none → W (t.set id (.cells vs)))
    (hK : ∀ A' t', Acc b t' sz A' (n + 1) (cs ++ vs) → HS.le b t' → (∀ q ob, accId A ≠ some q → t q = some ob → t' q = some ob ∧ accId A' ≠ some q) → K A' t') : hBS t sz 1 zs [(0, x)] (fun v s => W s ∧ hAppend s sz by_ A v K) := by
  have hf : hfill (fun i => some (i * sz, sz)) zs [(0, x)] = some vs := by
    simp only [hfill, hx, Nat.zero_mul, Nat.zero_add, hv, hz, Nat.le_refl, and_self, if_true, List.take_zero, List.nil_append]
    rw [List.drop_of_length_le (by omega), List.append_nil]
  unfold hBS
  rw [hf]
  intro id hid
  refine ⟨hW id hid, ?_⟩
  refine (h.new _ hid).app (le_set_new _ hb hid) (xs := vs) (k := 1) ?_ rfl (by omega) hroom ?_
  · simp [lcells, set_at, hv, List.take_of_length_le]
  · intro A' t' h1 h2 h3
    exact hK A' t' h1 h2 fun q ob hq hq2 => h3 q ob hq (by rw [set_ne _ _ (ne_new hq2 hid)]; exact hq2)
theorem Acc.app1 {b t : HS} {sz by_ : Nat} {A : HV} {n : Nat} {cs zs : List HV} {K : HV → HS → Prop} (h : Acc b t sz A n cs) (hb : HS.le b t) {x : HV} {vs : List HV} (hx : hcells x = some vs) (hv : vs.length = sz) (hz : zs.length = sz)
    (hroom : room (n + 1) by_)
    (hK : ∀ A' t', Acc b t' sz A' (n + 1) (cs ++ vs) → HS.le b t' → (∀ q ob, accId A ≠ some q → t q = some ob → t' q = some ob ∧ accId A' ≠ some q) → K A' t') : hBS t sz 1 zs [(0, x)] (fun v s => hAppend s sz by_ A v K) := by
  have := h.app1W (W := fun _ => True) (K := K) (zs := zs) hb hx hv hz hroom (fun _ _ => trivial) hK
  unfold hBS at this ⊢
  split
  · rename_i cs' h'
    rw [h'] at this
    exact fun id hid => (this id hid).2
  · rename_i h'
    rw [h'] at this
    exact this
def accV (sz n : Nat) (cs : List HV) : HV := if n = 0 then nilV else .list sz n cs false
theorem Acc.up {b t : HS} {sz : Nat} {A : HV} {n : Nat} {cs : List HV} (h : Acc b t sz A n cs) (hb : HS.le b t) : UpL [A] t [accV sz n cs] b := by
  rcases h with ⟨rfl, rfl, rfl⟩ | ⟨q, h1, rfl, h3, h4, h5⟩
  · exact UpL.le _ hb
  · have hu := UpL.frzD (xs := [.view q 0 sz n false]) h3 hb h1
    have : (cs.take (n * sz)) = cs := List.take_of_length_le (by omega)
    simpa [frz2, frz1, frz0, phi, accV, h5, h4, this] using hu
/-- Among other results. -/
theorem Acc.upT {b t : HS} {sz : Nat} {A : HV} {n : Nat} {cs : List HV} (h : Acc b t sz A n cs) (hb : HS.le b t) (ys zs : List HV) (hy : ∀ q cs, ys.map (frz1 q cs) = ys) (hz : ∀ q cs, zs.map (frz1 q cs) = zs) :
    UpL [.tup (ys ++ A :: zs)] t [.tup (ys ++ accV sz n cs :: zs)] b := by
  rcases h with ⟨rfl, rfl, rfl⟩ | ⟨q, h1, rfl, h3, h4, h5⟩
  · exact UpL.le _ hb
  · have hu := UpL.frzD (xs := [.tup (ys ++ .view q 0 sz n false :: zs)]) h3 hb h1
    have : (cs.take (n * sz)) = cs := List.take_of_length_le (by omega)
    simpa [frz2, frz1, frz0, phi, accV, h5, h4, this, hy, hz] using hu
/-- Among other values. -/
theorem Acc.upAt {b t : HS} {sz : Nat} {A : HV} {n : Nat} {cs : List HV} (h : Acc b t sz A n cs) (hb : HS.le b t) (ys zs : List HV) (hy : ∀ q cs, ys.map (frz2 q cs) = ys) (hz : ∀ q cs, zs.map (frz2 q cs) = zs) :
    UpL (ys ++ A :: zs) t (ys ++ accV sz n cs :: zs) b := by
  rcases h with ⟨rfl, rfl, rfl⟩ | ⟨q, h1, rfl, h3, h4, h5⟩
  · exact UpL.le _ hb
  · have hu := UpL.frzD (xs := ys ++ .view q 0 sz n false :: zs) h3 hb h1
    have : (cs.take (n * sz)) = cs := List.take_of_length_le (by omega)
    simpa [frz2, frz1, frz0, phi, accV, h5, h4, this, hy, hz] using hu
theorem Acc.upAtL {b t : HS} {sz : Nat} {A : HV} {n : Nat} {cs : List HV} (h : Acc b t sz A n cs) (hb : HS.le b t) (ys zs : List HV) (hy : ∀ q cs, ys.map (frz2 q cs) = ys) (hz : ∀ q cs, zs.map (frz2 q cs) = zs) :
    UpL (ys ++ A :: zs) t (ys ++ .list sz n cs false :: zs) b := by
  rcases h with ⟨rfl, rfl, rfl⟩ | ⟨q, h1, rfl, h3, h4, h5⟩
  · exact (UpL.nilAt sz).trans (UpL.le _ hb)
  · have hu := UpL.frzD (xs := ys ++ .view q 0 sz n false :: zs) h3 hb h1
    have : (cs.take (n * sz)) = cs := List.take_of_length_le (by omega)
    simpa [frz2, frz1, frz0, phi, h4, this, hy, hz] using hu
/-- A row that may be nil is a row of none. -/
theorem upRow {α : Type} (enc : α → List HV) (sz : Nat) (o : Option (List α)) (ys zs : List HV) (t : HS) : UpL (ys ++ rowV enc sz o :: zs) t (ys ++ rowL enc sz (o.getD []) :: zs) t := by
  cases o with
  | none => exact UpL.nilAt sz
  | some l => exact UpL.refl _ _
theorem accV_rows {α : Type} {enc : α → List HV} {sz : Nat} (l : List α) : accV sz l.length (rows enc l) = rowV enc sz (match l with | [] => none | x :: r => some (x :: r)) := by
  cases l <;> simp [accV, rowV, rowL]
end Go.Proofs.Ytecnfekcflfihaa.H
