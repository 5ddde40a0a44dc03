/- The H layer: words for telling what texts come to. -/
import Derived.Test.YtecnfekcflfihaaH10
namespace Go.Proofs.Ytecnfekcflfihaa.H
open Go.RowKit Go.MapKept
set_option linter.unusedVariables false
set_option linter.unusedSimpArgs false
variable {P : Program} {s : HS}

/-- A slice that may be nil or not. -/
theorem HC.nilOr {f : FuncId} {pre post : List HV} {sz : Nat} {full : Bool} {Q : HV → HS → Prop} (h1 : HC P f (pre ++ .nils :: post) s Q) (h2 : HC P f (pre ++ .ne sz :: post) s Q) :
    HC P f (pre ++ .list sz 0 [] full :: post) s Q := by
  intro m w cargs hR hn ha
  have hmid := ha pre.length (.list sz 0 [] full) (by simp)
  have other : ∀ v', Rep m v' (cargs.getD pre.length undef) → ∀ (j : Nat) x, (pre ++ v' :: post)[j]? = some x → Rep m x (cargs.getD j undef) := by
    intro v' hv j x hj
    by_cases hlt : j < pre.length
    · rw [List.getElem?_append_left hlt] at hj
      exact ha j x (by rw [List.getElem?_append_left hlt]; exact hj)
    · by_cases heq : j = pre.length
      · subst heq
        rw [List.getElem?_append_right (Nat.le_refl _)] at hj
        simp at hj; subst hj; exact hv
      · rw [List.getElem?_append_right (by omega)] at hj
        obtain ⟨k, hk⟩ : ∃ k, j - pre.length = k + 1 := ⟨j - pre.length - 1, by omega⟩
        refine ha j x ?_
        rw [hk] at hj
        rw [List.getElem?_append_right (by omega), hk]
        simpa using hj
  generalize cargs.getD pre.length undef = cv at hmid other
  cases hmid with
  | list0 _ a cap _ hf =>
    cases a with
    | none => exact h1 m w cargs hR (by simpa using hn) (other _ (.nils _))
    | some a => exact h2 m w cargs hR (by simpa using hn) (other _ (.ne _ _ _))
  | list _ _ _ _ cap b o f hn' hf hlen ho hc hr => exact h2 m w cargs hR (by simpa using hn) (other _ (.ne _ _ _))

-- states
theorem set_at (s : HS) (i : Nat) (o : HObj) : (s.set i o) i = some o := by simp [HS.set]
theorem set_ne (s : HS) {i j : Nat} (o : HObj) (h : j ≠ i) : (s.set i o) j = s j := by simp [HS.set, h]
theorem del_ne (s : HS) {i j : Nat} (h : j ≠ i) : (s.del i) j = s j := by simp [HS.del, h]
theorem del_at (s : HS) (i : Nat) : (s.del i) i = none := by simp [HS.del]
theorem set_set (s : HS) (i : Nat) (o o' : HObj) : (s.set i o).set i o' = s.set i o' := by funext k; simp only [HS.set]; split <;> rfl
theorem del_set (s : HS) {i : Nat} (o : HObj) (h : s i = none) : (s.set i o).del i = s := by
  funext k
  simp only [HS.set, HS.del]
  split
  · rename_i e; rw [e, h]
  · rfl
theorem set_comm (s : HS) {i j : Nat} (o o' : HObj) (h : i ≠ j) : (s.set i o).set j o' = (s.set j o').set i o := by
  funext k
  simp only [HS.set]
  by_cases h1 : k = i <;> by_cases h2 : k = j <;> simp [h1, h2] <;> omega
theorem del_set_ne (s : HS) {i j : Nat} (o : HObj) (h : i ≠ j) : (s.set i o).del j = (s.del j).set i o := by
  funext k
  simp only [HS.set, HS.del]
  by_cases h1 : k = i <;> by_cases h2 : k = j <;> simp [h1, h2] <;> omega
theorem del_none (s : HS) {i : Nat} (h : s i = none) : s.del i = s := by
  funext k
  simp only [HS.del]
  split
  · rename_i e; rw [e, h]
  · rfl
theorem le_refl' (s : HS) : HS.le s s := fun _ _ h => h
theorem HS.le.trans {a b c : HS} (h : HS.le a b) (k : HS.le b c) : HS.le a c := fun i o x => k i o (h i o x)
theorem le_set_new {s s' : HS} {i : Nat} (o : HObj) (hs : HS.le s' s) (h : s i = none) : HS.le s' (s.set i o) := by
  intro k ob hk
  have h1 := hs k ob hk
  simp only [HS.set]
  split
  · rename_i e; rw [e, h] at h1; cases h1
  · exact h1
theorem le_del_new {s s' : HS} {i : Nat} (hs : HS.le s' s) (h : s' i = none) : HS.le s' (s.del i) := by
  intro k ob hk
  simp only [HS.del]
  split
  · rename_i e; rw [e, h] at hk; cases hk
  · exact hs k ob hk
theorem set_none_iff (s : HS) (i j : Nat) (o : HObj) : (s.set i o) j = none ↔ j ≠ i ∧ s j = none := by
  simp only [HS.set]
  split <;> simp [*]
theorem del_none_iff (s : HS) (i j : Nat) : (s.del i) j = none ↔ j = i ∨ s j = none := by
  simp only [HS.del]
  split <;> simp [*]
/-- A new row that was made is a list from here on. -/
theorem up1 {t : HS} {id sz n : Nat} {full : Bool} {cs : List HV} (h : t id = some (.cells cs)) (hn : n * sz = cs.length) (hle : HS.le s (t.del id)) : UpL [.view id 0 sz n full] t [.list sz n cs false] s := by
  have h1 := UpL.freeze (ys := []) (zs := []) (id := id) (off := 0) (sz := sz) (n := n) (full := full) (full' := false) (fun h => by cases h) h (by omega)
  simp only [List.nil_append, List.drop_zero, hn, List.take_length] at h1
  exact h1.trans (UpL.le _ hle)
theorem up_nil (sz : Nat) {t : HS} (hle : HS.le s t) : UpL [.nils] t [.list sz 0 [] false] s := by
  intro m w cvs h1 h2
  refine ⟨m, M.le.refl m, h1.weaken hle, h2.1, fun j x hj => ?_⟩
  cases j with
  | zero =>
    simp at hj; subst hj
    have := h2.2 0 .nils rfl
    generalize cvs.getD 0 undef = cv at this ⊢
    cases this with | nils cap => exact .list0 _ _ _ _ (fun h => by cases h)
  | succ j => simp at hj
theorem up_lit_nil (sz : Nat) {t : HS} (hle : HS.le s t) : UpL [.lit (.slice none 0 0)] t [.list sz 0 [] false] s := by
  intro m w cvs h1 h2
  refine ⟨m, M.le.refl m, h1.weaken hle, h2.1, fun j x hj => ?_⟩
  cases j with
  | zero =>
    simp at hj; subst hj
    have := h2.2 0 (.lit (.slice none 0 0)) rfl
    generalize cvs.getD 0 undef = cv at this ⊢
    cases this; exact .list0 _ _ _ _ (fun h => by cases h)
  | succ j => simp at hj
def bl (l : List Int) : List HV := l.map fun b => .lit (.int .u8 b)
theorem bl_len (l : List Int) : (bl l).length = l.length := by simp [bl]

theorem bits64 : IntKind.i64.bits = 64 := rfl
theorem bits64u : IntKind.u64.bits = 64 := rfl
theorem bits8 : IntKind.u8.bits = 8 := rfl
theorem ne_new {s : HS} {p id : Nat} {o : HObj} (hp : s p = some o) (hid : s id = none) : p ≠ id := by rintro rfl; rw [hid] at hp; cases hp
-- the cells of single values
theorem hc_int (k : IntKind) (n : Int) : hcells (.lit (.int k n)) = some [.lit (.int k n)] := rfl
theorem hc_bool (b : Bool) : hcells (.lit (.bool b)) = some [.lit (.bool b)] := rfl
theorem hc_string (b : ByteArray) : hcells (.lit (.string b)) = some [.lit (.string b)] := rfl
theorem hc_slice (a : Option Addr) (n c : Nat) : hcells (.lit (.slice a n c)) = some [.lit (.slice a n c)] := rfl
theorem hc_nilp : hcells (.lit (.pointer none)) = some [.lit (.pointer none)] := rfl
theorem hc_nilm : hcells (.lit (.map none)) = some [.lit (.map none)] := rfl
theorem hc_nilf : hcells (.lit .nilFunc) = some [.lit .nilFunc] := rfl
theorem hc_agg (cs : List HV) : hcells (.agg cs) = some cs := rfl
theorem hc_list (sz n : Nat) (cs : List HV) (f : Bool) : hcells (.list sz n cs f) = some [.list sz n cs f] := rfl
theorem hc_view (i o sz n : Nat) (f : Bool) : hcells (.view i o sz n f) = some [.view i o sz n f] := rfl
theorem hc_ptr (i o : Nat) : hcells (.ptr i o) = some [.ptr i o] := rfl
theorem hc_map (i : Nat) : hcells (.map i) = some [.map i] := rfl
theorem hc_func (f : Fn) (cs : List HV) : hcells (.func f cs) = some [.func f cs] := rfl
theorem ho_int (k : IntKind) (n : Int) : hone (.lit (.int k n)) = true := rfl
theorem ho_bool (b : Bool) : hone (.lit (.bool b)) = true := rfl
theorem ho_string (b : ByteArray) : hone (.lit (.string b)) = true := rfl
theorem ho_slice (a : Option Addr) (n c : Nat) : hone (.lit (.slice a n c)) = true := rfl
theorem ho_nilp : hone (.lit (.pointer none)) = true := rfl
theorem ho_nilm : hone (.lit (.map none)) = true := rfl
theorem ho_nilf : hone (.lit .nilFunc) = true := rfl
theorem ho_list (sz n : Nat) (cs : List HV) (f : Bool) : hone (.list sz n cs f) = true := rfl
theorem ho_view (i o sz n : Nat) (f : Bool) : hone (.view i o sz n f) = true := rfl
theorem ho_ptr (i o : Nat) : hone (.ptr i o) = true := rfl
theorem ho_map (i : Nat) : hone (.map i) = true := rfl
theorem ho_func (f : Fn) (cs : List HV) : hone (.func f cs) = true := rfl

-- loops, by what no value tells
theorem least {p : Nat → Prop} (h : ∃ n, p n) : ∃ n, p n ∧ ∀ k, p k → n ≤ k := by
  obtain ⟨n, hn⟩ := h
  induction n using Nat.strongRecOn with
  | ind n ih =>
    by_cases hk : ∃ k, k < n ∧ p k
    · obtain ⟨k, h1, h2⟩ := hk
      exact ih k h1 h2
    · exact ⟨n, hn, fun k hpk => Nat.le_of_not_lt fun hlt => hk ⟨k, hlt, hpk⟩⟩
theorem HLoop.ghostU {σ : Type} {F : List HV → HS → (List HV → HS → Prop) → Prop} {xs0 : List HV} {s0 : HS} (X : σ → List HV) (S : σ → HS → Prop) (μ : σ → Nat) (g0 : σ) (t : HS) (hu : UpL xs0 s0 (X g0) t) (h0 : S g0 t)
    (hstep : ∀ g s K, S g s → (∀ g' xs' s' s'', UpL xs' s' (X g') s'' → S g' s'' → μ g' < μ g → K xs' s') → F (X g) s K) : HLoop F xs0 s0 := by
  let R : List HV → HS → Nat → Prop := fun xs s n => ∃ g, X g = xs ∧ S g s ∧ μ g = n
  let m : List HV → HS → Nat := fun xs s => Classical.epsilon fun n => R xs s n ∧ ∀ k, R xs s k → n ≤ k
  have hm : ∀ g s, S g s → (∃ g', X g' = X g ∧ S g' s ∧ μ g' = m (X g) s) ∧ m (X g) s ≤ μ g := by
    intro g s hs
    have h : ∃ n, R (X g) s n := ⟨_, g, rfl, hs, rfl⟩
    have hc : R (X g) s (m (X g) s) ∧ ∀ k, R (X g) s k → m (X g) s ≤ k := Classical.epsilon_spec (least h)
    exact ⟨hc.1, hc.2 _ ⟨g, rfl, hs, rfl⟩⟩
  refine ⟨fun xs s => ∃ g, X g = xs ∧ S g s, m, ⟨_, t, hu, g0, rfl, h0⟩, ?_⟩
  rintro xs s ⟨g, rfl, hs⟩
  obtain ⟨⟨g1, h1, h2, h3⟩, -⟩ := hm g s hs
  rw [← h1]
  refine hstep g1 s _ h2 fun g' xs' s' s'' hu' hs' hlt => ⟨_, s'', hu', ⟨g', rfl, hs'⟩, ?_⟩
  exact Nat.lt_of_le_of_lt (hm g' s'' hs').2 (by rw [h1, ← h3]; exact hlt)
theorem HLoop.ghost {σ : Type} {F : List HV → HS → (List HV → HS → Prop) → Prop} {xs0 : List HV} {s0 : HS} (X : σ → List HV) (S : σ → HS → Prop) (μ : σ → Nat) (g0 : σ) (hu : xs0 = X g0) (h0 : S g0 s0)
    (hstep : ∀ g s K, S g s → (∀ g' xs' s', xs' = X g' → S g' s' → μ g' < μ g → K xs' s') → F (X g) s K) : HLoop F xs0 s0 :=
  HLoop.ghostU X S μ g0 s0 (by rw [hu]; exact UpL.refl _ _) h0 fun g s K hs hK => hstep g s K hs fun g' xs' s' e h1 h2 => hK g' xs' s' s' (by rw [e]; exact UpL.refl _ _) h1 h2
theorem le_set_free {b t : HS} {p : Nat} (o : HObj) (h : HS.le b t) (hp : b p = none) : HS.le b (t.set p o) := by
  intro k ob hk
  have hne : k ≠ p := by rintro rfl; rw [hp] at hk; cases hk
  rw [set_ne _ _ hne]
  exact h k ob hk
theorem le_del_free {b t : HS} {p : Nat} (h : HS.le b t) (hp : b p = none) : HS.le b (t.del p) := by
  intro k ob hk
  have hne : k ≠ p := by rintro rfl; rw [hp] at hk; cases hk
  rw [del_ne _ hne]
  exact h k ob hk
theorem none_of_le {b' b : HS} (h : HS.le b' b) {p : Nat} (hp : b p = none) : b' p = none := by
  cases e : b' p with
  | none => rfl
  | some o => rw [h p o e] at hp; cases hp
end Go.Proofs.Ytecnfekcflfihaa.H
