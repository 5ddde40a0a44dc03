/- Once, by numbers, in plain words: batches of one producer, one behind the other. -/
import Derived.Test.YtmdgkjjdcfpjiaaPW
namespace Go.Proofs.Ytmdgkjjdcfpjiaa.PT
open Go.RowKit Go.Proofs.YtmdgkjjdcfpjiaaW.PrintWords Go.Proofs.Ytmdgkjjdcfpjiaa.PProducerOnce
set_option linter.unusedVariables false
set_option linter.unusedSimpArgs false

section
variable {m : Nat} {S n : Nat → Int}
/-- Numbers one behind the other. -/
structure Run (m : Nat) (S n : Nat → Int) : Prop where
  zero : S 0 = 0
  step : ∀ i, i < m → S (i + 1) = S i + n i
  size : ∀ i, i < m → 1 ≤ n i ∧ n i ≤ 9
  most : m ≤ 20
theorem Run.mono (h : Run m S n) {i j : Nat} (hij : i < j) (hj : j ≤ m) : S i < S j := by
  induction j with
  | zero => omega
  | succ j ih =>
    have h1 := h.step j (by omega)
    have h2 := h.size j (by omega)
    by_cases e : i = j
    · subst e; omega
    · have := ih (by omega) (by omega); omega
theorem Run.le (h : Run m S n) {j : Nat} (hj : j ≤ m) : 0 ≤ S j ∧ S j ≤ 9 * j := by
  induction j with
  | zero => rw [h.zero]; omega
  | succ j ih =>
    have h1 := h.step j (by omega)
    have h2 := h.size j (by omega)
    have := ih (by omega)
    omega
theorem Run.inj (h : Run m S n) {i j : Nat} (hi : i ≤ m) (hj : j ≤ m) (e : S i = S j) : i = j := by
  rcases Nat.lt_trichotomy i j with hl | he | hl
  · have := h.mono hl hj; omega
  · exact he
  · have := h.mono hl hi; omega
def ent (S n : Nat → Int) (i : Nat) : S97 := ⟨S i, n i, S i⟩
def hist (S n : Nat → Int) (j : Nat) : List S97 := (List.range j).map (ent S n)
def last5 (S n : Nat → Int) (j : Nat) : List S97 := (hist S n j).drop (j - 5)
theorem hist_len (j : Nat) : (hist S n j).length = j := by simp [hist]
theorem hist_succ (j : Nat) : hist S n (j + 1) = hist S n j ++ [ent S n j] := by simp [hist, List.range_succ]
theorem last5_succ (j : Nat) : last5 S n (j + 1) = (last5 S n j ++ [ent S n j]).drop ((last5 S n j ++ [ent S n j]).length - 5) := by
  unfold last5
  rw [hist_succ]
  have hl := hist_len (S := S) (n := n) j
  rw [List.length_append, List.length_drop, hl, List.length_singleton]
  have e : (hist S n j).drop (j - 5) ++ [ent S n j] = (hist S n j ++ [ent S n j]).drop (j - 5) := by
    rw [List.drop_append_of_le_length (by omega)]
  rw [e, List.drop_drop]
  congr 1
  omega
theorem last5_len (j : Nat) : (last5 S n j).length = j - (j - 5) := by
  unfold last5
  rw [List.length_drop, hist_len]
theorem mem_last5 {j : Nat} {x : S97} (h : x ∈ last5 S n j) : ∃ i, j - 5 ≤ i ∧ i < j ∧ x = ent S n i := by
  obtain ⟨i, hi, rfl⟩ := List.mem_iff_getElem.1 h
  have hl := last5_len (S := S) (n := n) j
  refine ⟨j - 5 + i, by omega, by omega, ?_⟩
  simp [last5, hist]
theorem in_last5 {j i : Nat} (h1 : j - 5 ≤ i) (h2 : i < j) : ent S n i ∈ last5 S n j := by
  have hl := last5_len (S := S) (n := n) j
  refine List.mem_iff_getElem.2 ⟨i - (j - 5), by omega, ?_⟩
  simp only [last5, hist, List.getElem_drop, List.getElem_map, List.getElem_range]
  congr 1
  omega
theorem next_last5 (h : Run m S n) {j : Nat} (h0 : 0 < j) (hj : j ≤ m) (ep : Int) : nextO ⟨ep, last5 S n j⟩ = S j := by
  obtain ⟨i, rfl⟩ : ∃ i, j = i + 1 := ⟨j - 1, by omega⟩
  have e : (last5 S n (i + 1)).getLast? = some (ent S n i) := by
    unfold last5
    rw [List.getLast?_drop, if_neg (by rw [hist_len]; omega), hist_succ]
    simp
  unfold nextO
  simp only [e]
  show wrap64 (S i + n i) = S (i + 1)
  have h1 := h.step i (by omega)
  have h2 := h.le (j := i + 1) hj
  rw [h1] at h2 ⊢
  have hm := h.most
  unfold wrap64
  omega
theorem find_last5 (h : Run m S n) {j k : Nat} (hk : k < m) (hj : j ≤ m) (h1 : j - 5 ≤ k) (h2 : k < j) : (last5 S n j).find? (fun x => x.f0 == S k && x.f1 == n k) = some (ent S n k) := by
  cases hf : (last5 S n j).find? (fun x => x.f0 == S k && x.f1 == n k) with
  | none =>
    have := List.find?_eq_none.1 hf _ (in_last5 h1 h2)
    simp [ent] at this
  | some x =>
    have hp := List.find?_some hf
    obtain ⟨i, a, b, rfl⟩ := mem_last5 (List.mem_of_find?_eq_some hf)
    simp [ent] at hp
    rw [h.inj (by omega) (by omega) hp.1]
theorem find_last5_none (h : Run m S n) {j k : Nat} (hk : k < m) (hj : j ≤ m) (h1 : ¬ (j - 5 ≤ k ∧ k < j)) : (last5 S n j).find? (fun x => x.f0 == S k && x.f1 == n k) = none := by
  rw [List.find?_eq_none]
  intro x hx hp
  obtain ⟨i, a, b, rfl⟩ := mem_last5 hx
  simp [ent] at hp
  have := h.inj (i := i) (j := k) (by omega) (by omega) hp.1
  subst this
  exact h1 ⟨a, b⟩
/-- What is kept behind j batches. -/
def Kept5 (S n : Nat → Int) (f : Tab) (j : Nat) : Prop := f 3 = if j = 0 then none else some ⟨2, last5 S n j⟩
def ansC (S : Nat → Int) (j k : Nat) : Int × Bool × Int := if k = j then (0, false, 0) else if j < k then (0, false, 10) else if j ≤ k + 5 then (S k, true, 0) else (0, false, 9)
theorem check_run (h : Run m S n) {f : Tab} {j k : Nat} (hf : Kept5 S n f j) (hk : k < m) (hj : j ≤ m) : checkT f 3 2 (S k) (n k) = ansC S j k := by
  unfold checkT ansC
  rw [if_neg (by decide), hf]
  by_cases h0 : j = 0
  · subst h0
    rw [if_pos rfl]
    by_cases e : k = 0
    · subst e; simp [h.zero]
    · have := h.mono (i := 0) (j := k) (by omega) (by omega)
      have hz := h.zero
      rw [if_neg e, if_pos (by omega)]
      simp only
      rw [if_pos (by omega)]
  · rw [if_neg h0]
    simp only [Int.lt_irrefl, gt_iff_lt, if_false]
    rw [next_last5 h (by omega) hj]
    by_cases e : k = j
    · subst e; simp
    · have hne : ¬ S k = S j := fun he => e (h.inj (by omega) hj he)
      rw [if_neg hne, if_neg e]
      by_cases hlt : j < k
      · have := h.mono hlt (by omega)
        rw [if_pos hlt, find_last5_none h hk hj (by omega)]
        simp only
        rw [if_neg (by omega)]
      · rw [if_neg hlt]
        by_cases h5 : j ≤ k + 5
        · rw [if_pos h5, find_last5 h hk hj (by omega) (by omega)]
          rfl
        · have := h.mono (i := k) (j := j) (by omega) hj
          rw [if_neg h5, find_last5_none h hk hj (by omega)]
          simp only
          rw [if_pos this]
theorem add_next (h : Run m S n) {f : Tab} {j : Nat} (hf : Kept5 S n f j) (hj : j < m) : ∃ f', addT f 3 2 (S j) (n j) (S j) = (0, f') ∧ Kept5 S n f' (j + 1) := by
  have hc := check_run h hf hj (Nat.le_of_lt hj)
  have hn := h.size j hj
  have ha : ansC S j j = (0, false, 0) := by unfold ansC; rw [if_pos rfl]
  refine ⟨fun q => if q = 3 then some (oneT f 3 2 (S j) (n j) (S j)) else f q, ?_, ?_⟩
  · unfold addT
    rw [hc, ha, if_neg (by decide), if_neg (by decide), if_neg (by decide), if_neg (by omega)]
  · unfold Kept5
    rw [if_neg (by omega)]
    show (if (3 : Int) = 3 then some (oneT f 3 2 (S j) (n j) (S j)) else f 3) = _
    rw [if_pos rfl]
    unfold oneT
    rw [hf]
    by_cases h0 : j = 0
    · subst h0; rfl
    · rw [if_neg h0]
      simp only [Int.lt_irrefl, gt_iff_lt, if_false]
      rw [last5_succ]
      rfl
theorem add_other (h : Run m S n) {f : Tab} {j k : Nat} (hf : Kept5 S n f j) (hk : k < m) (hj : j ≤ m) (hne : k ≠ j) (base : Int) : addT f 3 2 (S k) (n k) base = (if j < k then 10 else 9, f) := by
  have hc := check_run h hf hk hj
  unfold addT
  rw [hc, if_neg (by decide)]
  unfold ansC
  rw [if_neg hne]
  by_cases h1 : j < k
  · simp [h1]
  · rw [if_neg h1, if_neg h1]
    by_cases h5 : j ≤ k + 5
    · simp [h5]
    · simp [h5]
end
end Go.Proofs.Ytmdgkjjdcfpjiaa.PT
