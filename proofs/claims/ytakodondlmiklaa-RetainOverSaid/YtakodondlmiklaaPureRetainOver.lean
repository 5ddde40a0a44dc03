/- The front of the segments: every segment ahead of it can go, and the front itself cannot, unless it is the last. -/
import Derived.Test.YtakodondlmiklaaURetainOver
namespace Go.Proofs.Ytakodondlmiklaa.Pure
open Go.RowKit Go.Proofs.Ytakodondlmiklaa.PRetainOver Go.Proofs.Ytakodondlmiklaa.PRetainOverU Go.Proofs.YtakodondlmiklaaW.PrintWords Go.Proofs.YtakodondlmiklaaW.PrintLast Go.Proofs.YtakodondlmiklaaW.PrintMore

theorem over_l1 (l : List S42) (K A now r : Int) (hl : l.length ≤ 60) (hn : 0 ≤ now ∧ now ≤ 1125899906842624) (hok : ∀ j : Int, 0 ≤ j → j < l.length → Ok (rd_T42 l j)) (hF : Front l K A now 0 r) :
    ∀ (m k : Nat) (i : Int), 0 ≤ i → i + m = r → m + 103 ≤ k → cordwainlaw11_RetainOver.l1 k l K A now r i = some true
  | 0, k, i, h0, e, hk => by
    obtain ⟨k, rfl, hk⟩ := succ_of hk
    obtain ⟨h1, h2, h3, h4⟩ := hF
    have e : i = r := by omega
    subst e
    simp only [cordwainlaw11_RetainOver.l1]
    rw [if_neg (by omega), w64 (x := i + 1) (by omega) (by omega), awake_f k (by omega), Option.bind_some]
    by_cases c : i + 1 < l.length
    · have no := h4 c
      have ok := hok i h0 (by omega)
      have ok4 := ok.2
      rw [if_pos c, w64 (x := now - (rd_T42 l i).f4) (by omega) (by omega)]
      have hA : (if A > 0 then (if 0 ≤ i then (if i < (l.length : Int) then (if now - (rd_T42 l i).f4 > A then (some false) else some true) else none) else none) else some true) = some true := by
        by_cases a : A > 0
        · rw [if_pos a, if_pos h0, if_pos (by omega), if_neg (fun h => no (.inr ⟨a, h⟩))]
        · rw [if_neg a]
      by_cases c2 : K > 0
      · rw [if_pos c2, if_pos h0, if_pos (by omega), fsum_f _ k (drop_len hl _) (by omega), Option.bind_some, if_neg (fun h => no (.inl ⟨c2, h⟩))]
        by_cases a : A > 0
        · rw [if_pos a, if_pos (by omega), if_neg (fun h => no (.inr ⟨a, h⟩))]
        · rw [if_neg a]
      · rw [if_neg c2]; exact hA
    · rw [if_neg c]
  | m + 1, k, i, h0, e, hk => by
    obtain ⟨k, rfl, hk⟩ := succ_of hk
    have ih := over_l1 l K A now r hl hn hok hF m k (i + 1) (by omega) (by omega) (by omega)
    obtain ⟨h1, h2, h3, h4⟩ := hF
    have ho := h3 i h0 (by omega)
    have ok := hok i h0 (by omega)
    have ok4 := ok.2
    simp only [cordwainlaw11_RetainOver.l1]
    rw [if_pos (by omega), w64 (x := i + 1) (by omega) (by omega), ih, w64 (x := now - (rd_T42 l i).f4) (by omega) (by omega)]
    by_cases c2 : K > 0
    · rw [if_pos c2, if_pos h0, if_pos (by omega), fsum_f _ k (drop_len hl _) (by omega), Option.bind_some]
      by_cases c3 : sumL 0 (l.drop i.toNat) > K
      · rw [if_pos c3]
      · rw [if_neg c3]
        rcases ho with ho | ho
        · exact absurd ho.2 c3
        · rw [if_pos ho.1, if_pos (by omega), if_pos ho.2]
    · rw [if_neg c2]
      rcases ho with ho | ho
      · exact absurd ho.1 c2
      · rw [if_pos ho.1, if_pos h0, if_pos (by omega), if_pos ho.2]

theorem over_l0 (l : List S42) (K A now : Int) (hl : l.length ≤ 60) (hn : 0 ≤ now ∧ now ≤ 1125899906842624) (hA : A < 9223372036854775808) (hok : ∀ j : Int, 0 ≤ j → j < l.length → Ok (rd_T42 l j)) :
    ∀ (m k : Nat) (i : Int), 0 ≤ i → i + m = l.length → m + 303 ≤ k → cordwainlaw11_RetainOver.l0 k l K A now i = some true
  | 0, k, i, h0, e, hk => by
    obtain ⟨k, rfl, hk⟩ := succ_of hk
    simp only [cordwainlaw11_RetainOver.l0]
    obtain ⟨r, hr, hF⟩ := front_f l K A now 0 0 0 0 0 false false hl hn hA hok k (by omega)
    rw [if_neg (by omega), made_f l k hl (by omega), Option.bind_some, hr, Option.bind_some]
    have hj : cordwainlaw11_RetainOver.j2 k l K A now r false = some true := by
      obtain ⟨q, rfl, hq⟩ := succ_of (show 300 + 1 ≤ k by omega)
      simp only [cordwainlaw11_RetainOver.j2]
      rw [if_neg (by decide)]
      obtain ⟨h1, h2, h3, h4⟩ := hF
      exact over_l1 l K A now r hl hn hok ⟨h1, h2, h3, h4⟩ r.toNat q 0 (by omega) (by omega) (by omega)
    obtain ⟨h1, h2, h3, h4⟩ := hF
    rw [if_neg (by omega)]
    by_cases c : (l.length : Int) = 0
    · rw [if_pos c, if_pos (by omega), if_neg (by omega)]; exact hj
    · rw [if_neg c, if_pos (by omega), decide_eq_false (by omega)]; exact hj
  | m + 1, k, i, h0, e, hk => by
    obtain ⟨k, rfl, hk⟩ := succ_of hk
    have ih := over_l0 l K A now hl hn hA hok m k (i + 1) (by omega) (by omega) (by omega)
    simp only [cordwainlaw11_RetainOver.l0]
    rw [if_pos (by omega), if_pos h0, awake_f k (by omega), Option.bind_some, w64 (x := i + 1) (by omega) (by omega), ih]
    by_cases c1 : (rd_T42 l i).f2 < 0
    · rw [if_pos c1]
    · rw [if_neg c1]
      by_cases c2 : (rd_T42 l i).f2 > 1099511627776
      · rw [if_pos c2]
      · rw [if_neg c2]

theorem over_true (k : Nat) (hk : 41 ≤ k) (l : List S42) (K A now : Int) : cordwainlaw11_RetainOver.j0 k l K A now true = some true := by
  obtain ⟨k, rfl, hk⟩ := succ_of hk
  simp only [cordwainlaw11_RetainOver.j0]
  rw [if_pos trivial, awake_f k (by omega)]; rfl

theorem RetainOver : cordwainlaw11_RetainOver.Pure := by
  intro l K A now _ _ _ _
  refine ⟨500, ?_⟩
  generalize hk : (500 : Nat) = k
  have hk' : 500 ≤ k := by omega
  clear hk
  have ht := over_true k (by omega) l K A now
  unfold cordwainlaw11_RetainOver.f
  obtain ⟨b, hb, hs⟩ := small_f l now k (by omega)
  rw [hb, Option.bind_some]
  by_cases c0 : b = true
  · obtain ⟨hl, hn, hok⟩ := hs c0
    rw [if_pos c0]
    by_cases c1 : K < 0
    · rw [if_pos c1, ht]
    rw [if_neg c1]
    by_cases c2 : K > 1125899906842624
    · rw [if_pos c2, ht]
    rw [if_neg c2]
    by_cases c3 : A < 0
    · rw [if_pos c3, ht]
    rw [if_neg c3]
    by_cases c4 : A > 1125899906842624
    · rw [decide_eq_true c4, ht]
    rw [decide_eq_false c4]
    obtain ⟨k, rfl, hk⟩ := succ_of hk'
    simp only [cordwainlaw11_RetainOver.j0]
    rw [if_neg (by decide)]
    exact over_l0 l K A now hl hn (by omega) hok l.length k 0 (by omega) (by omega) (by omega)
  · rw [if_neg c0, ht]

end Go.Proofs.Ytakodondlmiklaa.Pure
