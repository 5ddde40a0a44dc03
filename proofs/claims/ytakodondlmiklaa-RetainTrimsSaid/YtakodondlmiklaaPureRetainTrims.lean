/- What lies wholly behind a start goes, and nothing else, and the active segment stays: for all lists of lengths and all starts. -/
import Derived.Test.YtakodondlmiklaaPRetainTrimsx3
namespace Go.Proofs.Ytakodondlmiklaa.Pure
open Go.RowKit Go.Proofs.Ytakodondlmiklaa.PRetainTrims Go.Proofs.YtakodondlmiklaaW.PrintWords Go.Proofs.YtakodondlmiklaaW.PrintLast Go.Proofs.YtakodondlmiklaaW.PrintMore

theorem w64 {x : Int} (h0 : -9223372036854775808 ≤ x) (h1 : x < 9223372036854775808) : wrap64 x = x := by
  unfold wrap64
  rw [Int.emod_eq_of_lt (by omega) (by omega)]
  omega

theorem awake_f (k : Nat) (hk : 40 ≤ k) : cordwainlaw11_awake.f k = some true := at_rounds cordwainlaw11_awake.mono hk (by decide +kernel)

/-- How many may go: what lies ahead ends ahead of the start, and the next one doesn't, or is the last one. -/
theorem trim_l0 (l : List S51) (start : Int) (hl : l.length ≤ 40) (d : Nat) : ∀ (k i : Nat), d + 1 ≤ k → i + d = l.length - 1 → (∀ j : Nat, j < i → (rd_T51 l (j : Int)).f1 ≤ start) →
    ∃ r : Nat, retain_Trim.l0 k l start (i : Int) = some (r : Int) ∧ r ≤ l.length - 1 ∧ (∀ j : Nat, j < r → (rd_T51 l (j : Int)).f1 ≤ start) ∧ (r + 1 ≥ l.length ∨ (rd_T51 l (r : Int)).f1 > start) := by
  have hw : l.length = 0 ∨ wrap64 ((l.length : Int) - 1) = ((l.length - 1 : Nat) : Int) := by
    rcases Nat.eq_zero_or_pos l.length with h | h
    · exact .inl h
    · right; rw [w64 (by omega) (by omega)]; omega
  induction d with
  | zero =>
    intro k i hk hi hj
    obtain ⟨k, rfl⟩ : ∃ m, k = m + 1 := ⟨k - 1, by omega⟩
    simp only [retain_Trim.l0]
    refine ⟨i, ?_, by omega, hj, .inl (by omega)⟩
    rcases hw with h | h
    · rw [if_neg]; rw [w64 (by omega) (by omega)]; omega
    · rw [h, if_neg (by omega)]
  | succ d ih =>
    intro k i hk hi hj
    obtain ⟨k, rfl⟩ : ∃ m, k = m + 1 := ⟨k - 1, by omega⟩
    simp only [retain_Trim.l0]
    have h : wrap64 ((l.length : Int) - 1) = ((l.length - 1 : Nat) : Int) := by rcases hw with h | h <;> omega
    rw [h, if_pos (by omega), if_pos (by omega), if_pos (by omega)]
    by_cases c : (rd_T51 l (i : Int)).f1 ≤ start
    · rw [if_pos c, show wrap64 ((i : Int) + 1) = ((i + 1 : Nat) : Int) from by rw [w64 (by omega) (by omega)]; omega]
      refine ih k (i + 1) (by omega) (by omega) (fun j hj' => ?_)
      rcases Nat.lt_or_ge j i with hji | hji
      · exact hj j hji
      · rw [show j = i from by omega]; exact c
    · rw [if_neg c]
      exact ⟨i, rfl, by omega, hj, .inr (by omega)⟩

theorem l1_f (l : List S51) (start : Int) (hl : l.length ≤ 40) (r : Nat) (hr : r ≤ l.length - 1) (hj : ∀ j : Nat, j < r → (rd_T51 l (j : Int)).f1 ≤ start) (hs : r + 1 ≥ l.length ∨ (rd_T51 l (r : Int)).f1 > start) (d : Nat) :
    ∀ (k i : Nat), d + 41 ≤ k → i + d = r → cordwainlaw11_RetainTrims.l1 k start l (r : Int) (i : Int) = some true := by
  induction d with
  | zero =>
    intro k i hk hi
    obtain ⟨k, rfl⟩ : ∃ m, k = m + 1 := ⟨k - 1, by omega⟩
    simp only [cordwainlaw11_RetainTrims.l1]
    rw [if_neg (by omega), w64 (by omega) (by omega), awake_f k (by omega), Option.bind_some]
    by_cases c : (r : Int) + 1 ≥ (l.length : Int)
    · rw [if_pos c]
    · rw [if_neg c, if_pos (by omega), if_pos (by omega), if_pos]
      rcases hs with h | h
      · omega
      · exact h
  | succ d ih =>
    intro k i hk hi
    obtain ⟨k, rfl⟩ : ∃ m, k = m + 1 := ⟨k - 1, by omega⟩
    simp only [cordwainlaw11_RetainTrims.l1]
    have := hj i (by omega)
    rw [if_pos (by omega), if_pos (by omega), if_pos (by omega), if_neg (by omega), show wrap64 ((i : Int) + 1) = ((i + 1 : Nat) : Int) from by rw [w64 (by omega) (by omega)]; omega]
    exact ih k (i + 1) (by omega) (by omega)

theorem j1_f (l : List S51) (start : Int) (hl : l.length ≤ 40) (k : Nat) (hk : 90 ≤ k) (r : Nat) (hr : r ≤ l.length - 1) (hj : ∀ j : Nat, j < r → (rd_T51 l (j : Int)).f1 ≤ start) (hs : r + 1 ≥ l.length ∨ (rd_T51 l (r : Int)).f1 > start) :
    cordwainlaw11_RetainTrims.j1 k start l (r : Int) false = some true := by
  obtain ⟨k, rfl⟩ : ∃ m, k = m + 1 := ⟨k - 1, by omega⟩
  simp only [cordwainlaw11_RetainTrims.j1]
  rw [if_neg (by decide)]
  exact l1_f l start hl r hr hj hs r k 0 (by omega) (by omega)

theorem end_f (lens : List Int) (start : Int) (l : List S51) (at_ : Int) (i : Nat) (hl : l.length ≤ 40) (hi : i = lens.length) (k : Nat) (hk : 91 ≤ k) : cordwainlaw11_RetainTrims.l0 k lens start l at_ (i : Int) = some true := by
  obtain ⟨k, rfl⟩ : ∃ m, k = m + 1 := ⟨k - 1, by omega⟩
  simp only [cordwainlaw11_RetainTrims.l0]
  obtain ⟨r, e, hr, hj, hs⟩ := trim_l0 l start hl (l.length - 1) k 0 (by omega) (by omega) (fun j h => by omega)
  have e' : retain_Trim.f k l start = some (r : Int) := e
  rw [if_neg (by omega), e', Option.bind_some, if_neg (by omega)]
  have hjf := j1_f l start hl k (by omega) r hr hj hs
  have h1 : (l.length : Int) = 0 → ((r : Int) != 0) = false := fun h => by
    have : r = 0 := by omega
    subst this; rfl
  by_cases c : (l.length : Int) > 0
  · rw [if_pos c, if_neg (by omega), if_neg (by omega)]; exact hjf
  · rw [if_neg c, if_pos (by omega), h1 (by omega)]; exact hjf

theorem l0_f (lens : List Int) (start : Int) (hl : lens.length ≤ 40) (d : Nat) : ∀ (k i : Nat) (l : List S51) (at_ : Int), d + 91 ≤ k → i + d = lens.length → l.length = i → 0 ≤ at_ → at_ ≤ 1000 * i →
    cordwainlaw11_RetainTrims.l0 k lens start l at_ (i : Int) = some true := by
  induction d with
  | zero =>
    intro k i l at_ hk hi hle _ _
    exact end_f lens start l at_ i (by omega) (by omega) k (by omega)
  | succ d ih =>
    intro k i l at_ hk hi hle h0 h1
    obtain ⟨k, rfl⟩ : ∃ m, k = m + 1 := ⟨k - 1, by omega⟩
    simp only [cordwainlaw11_RetainTrims.l0]
    rw [if_pos (by omega), if_pos (by omega), awake_f k (by omega), Option.bind_some]
    by_cases c1 : rd lens (i : Int) < 0
    · rw [if_pos c1]
    rw [if_neg c1]
    by_cases c2 : rd lens (i : Int) > 1000
    · rw [if_pos c2]
    rw [if_neg c2, if_pos (by omega), show wrap64 ((i : Int) + 1) = ((i + 1 : Nat) : Int) from by rw [w64 (by omega) (by omega)]; omega, w64 (by omega) (by omega)]
    exact ih k (i + 1) _ _ (by omega) (by omega) (by simp [hle]) (by omega) (by omega)

theorem RetainTrims : cordwainlaw11_RetainTrims.Pure := by
  intro l0 a1 _ _ _ _
  refine ⟨200, ?_⟩
  generalize hk : (200 : Nat) = k
  unfold cordwainlaw11_RetainTrims.f
  by_cases c : (l0.length : Int) > 40
  · rw [if_pos c, awake_f k (by omega)]; rfl
  · rw [if_neg c]
    exact l0_f l0 a1 (by omega) l0.length k 0 [] 0 (by omega) (by omega) rfl (by omega) (by omega)

end Go.Proofs.Ytakodondlmiklaa.Pure
