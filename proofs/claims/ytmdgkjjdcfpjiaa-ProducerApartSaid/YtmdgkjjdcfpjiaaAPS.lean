/- What weights of lists come to. -/
import Derived.Test.YtmdgkjjdcfpjiaaPProducerApartx2
namespace Go.Proofs.Ytmdgkjjdcfpjiaa.AP
open Go.RowKit Go.Proofs.YtmdgkjjdcfpjiaaW.PrintWords Go.Proofs.YtmdgkjjdcfpjiaaW.PrintLast Go.Proofs.YtmdgkjjdcfpjiaaW.PrintMore Go.Proofs.Ytmdgkjjdcfpjiaa.PProducerApart

theorem w64 {x : Int} (h0 : 0 ≤ x) (h1 : x ≤ 4611686018427387904) : wrap64 x = x := by unfold wrap64; omega
theorem wrap_nat (i : Nat) (h : (i : Int) + 1 ≤ 9223372036854775807) : wrap64 ((i : Int) + 1) = ((i + 1 : Nat) : Int) := by
  have e : ((i + 1 : Nat) : Int) = (i : Int) + 1 := rfl
  rw [e]
  unfold wrap64
  omega
theorem sum_nonneg (l : List Int) (hl : ∀ x ∈ l, 0 ≤ x) : 0 ≤ l.sum := by
  induction l with
  | nil => simp
  | cons y l ihl =>
    rw [List.sum_cons]
    have := hl y (by simp)
    have := ihl (fun x h => hl x (by simp [h]))
    omega
theorem rd_nat (xs : List Int) (j : Nat) (h : j < xs.length) : rd xs (j : Int) = xs[j] := by
  simp [rd, List.getD_eq_getElem?_getD, h]
/-- A sum, held at a limit. -/
theorem sum_from (xs : List Int) (hx : ∀ x ∈ xs, 0 ≤ x) (hl : xs.length ≤ 1000000) : ∀ (d i : Nat) (a : Int) (k : Nat), d + i = xs.length → d < k → 0 ≤ a → a ≤ 1099511627776 →
    cordwainalike_Sum.l0 k a xs (i : Int) = some (min (a + (xs.drop i).sum) 1099511627776) := by
  intro d
  induction d with
  | zero =>
    intro i a k hi hk h0 h1
    obtain ⟨k, rfl⟩ : ∃ m, k = m + 1 := ⟨k - 1, by omega⟩
    simp only [cordwainalike_Sum.l0]
    rw [if_neg (by omega), List.drop_of_length_le (by omega)]
    simp only [List.sum_nil, Option.some.injEq]
    omega
  | succ d ih =>
    intro i a k hi hk h0 h1
    obtain ⟨k, rfl⟩ : ∃ m, k = m + 1 := ⟨k - 1, by omega⟩
    have hlt : i < xs.length := by omega
    have hxi := hx _ (List.getElem_mem hlt)
    have hs := sum_nonneg (xs.drop (i + 1)) (fun x h => hx x (List.mem_of_mem_drop h))
    have e1 : wrap64 (1099511627776 - a) = 1099511627776 - a := w64 (by omega) (by omega)
    have e3 : (xs.drop i).sum = xs[i] + (xs.drop (i + 1)).sum := by rw [List.drop_eq_getElem_cons hlt, List.sum_cons]
    simp only [cordwainalike_Sum.l0]
    rw [if_pos (by omega), if_neg (by omega), if_pos (by omega), e1, rd_nat xs i hlt, e3]
    by_cases h : xs[i] > 1099511627776 - a
    · rw [if_pos h]
      simp only [Option.some.injEq]
      omega
    · rw [if_neg h]
      have e2 : wrap64 (a + xs[i]) = a + xs[i] := w64 (by omega) (by omega)
      have e4 : wrap64 ((i : Int) + 1) = ((i + 1 : Nat) : Int) := by rw [w64 (by omega) (by omega)]; rfl
      rw [e2, e4, ih (i + 1) (a + xs[i]) k (by omega) (by omega) (by omega) (by omega)]
      simp only [Option.some.injEq]
      omega
theorem sum_is (xs : List Int) (hx : ∀ x ∈ xs, 0 ≤ x) (hl : xs.length ≤ 1000000) (a : Int) (k : Nat) (hk : xs.length < k) (h0 : 0 ≤ a) (h1 : a ≤ 1099511627776) : cordwainalike_Sum.f k a xs = some (min (a + xs.sum) 1099511627776) := by
  unfold cordwainalike_Sum.f
  have := sum_from xs hx hl xs.length 0 a k (by omega) hk h0 h1
  simpa using this

/-- A batch's weight is at least its number of records and one, or beyond all limits. -/
theorem batch_from (rs : List S55) (hl : rs.length ≤ 9223372036854775807) (z0 z1 z2 z3 z4 : Int) : ∀ (d i : Nat) (n : Int) (k : Nat), d + i = rs.length → d + 4 < k → 0 ≤ n → n ≤ 1099511627776 →
    ∃ r, cordwainalike_Batch.l0 k n (i : Int) z0 z1 z2 z3 z4 rs = some r ∧ min (n + d) 1099511627776 ≤ r ∧ r ≤ 1099511627776 := by
  intro d
  induction d with
  | zero =>
    intro i n k hi hk h0 h1
    obtain ⟨k, rfl⟩ : ∃ m, k = m + 1 := ⟨k - 1, by omega⟩
    simp only [cordwainalike_Batch.l0]
    rw [if_neg (by omega)]
    exact ⟨n, rfl, by omega, h1⟩
  | succ d ih =>
    intro i n k hi hk h0 h1
    obtain ⟨k, rfl⟩ : ∃ m, k = m + 1 := ⟨k - 1, by omega⟩
    simp only [cordwainalike_Batch.l0]
    rw [if_pos (by omega), if_pos h1, if_pos (by omega)]
    rw [sum_is [1, ((rd_T55 rs (i : Int)).f3.length : Int), ((rd_T55 rs (i : Int)).f5.length : Int)] (by intro x hx; simp at hx; omega) (by simp) n k (by simp; omega) h0 h1]
    simp only [Option.bind_some, List.sum_cons, List.sum_nil]
    have e4 : wrap64 ((i : Int) + 1) = ((i + 1 : Nat) : Int) := wrap_nat i (by omega)
    rw [e4]
    obtain ⟨r, hr, h2, h3⟩ := ih (i + 1) (min (n + (1 + (((rd_T55 rs (i : Int)).f3.length : Int) + (((rd_T55 rs (i : Int)).f5.length : Int) + 0)))) 1099511627776) k (by omega) (by omega) (by omega) (by omega)
    exact ⟨r, hr, by omega, h3⟩
theorem batch_is (b : S28) (hl : b.f5.length ≤ 9223372036854775807) (k : Nat) (hk : b.f5.length + 5 < k) : ∃ r, cordwainalike_Batch.f k b.f0 b.f1 b.f2 b.f3 b.f4 b.f5 = some r ∧ min (1 + (b.f5.length : Int)) 1099511627776 ≤ r ∧ r ≤ 1099511627776 := by
  unfold cordwainalike_Batch.f
  obtain ⟨r, h1, h2, h3⟩ := batch_from b.f5 hl b.f0 b.f1 b.f2 b.f3 b.f4 b.f5.length 0 1 k (by omega) (by omega) (by omega) (by omega)
  exact ⟨r, h1, by omega, h3⟩
def lens (l : List S28) : Nat := (l.map (fun b => b.f5.length + 1)).sum
theorem rdb' (l : List S28) (j : Nat) (h : j < l.length) : rd_T28 l (j : Int) = l[j] := by
  simp [rd_T28, List.getD_eq_getElem?_getD, h]
/-- The weight of batches: within the limit it is at least the number of records. -/
theorem batches_from (l : List S28) (hl : l.length ≤ 9223372036854775807) (hb : ∀ b ∈ l, b.f5.length ≤ 9223372036854775807) (N : Nat) (hN : ∀ b ∈ l, b.f5.length ≤ N) : ∀ (d i : Nat) (n : Int) (k : Nat), d + i = l.length → 2 * d + N + 10 < k → 0 ≤ n → n ≤ 1099511627776 →
    ∃ r, cordwainalike_Batches.l0 k l 4000 n (i : Int) = some r ∧ (r ≤ 4000 → n + (lens (l.drop i) : Int) ≤ r) := by
  intro d
  induction d with
  | zero =>
    intro i n k hi hk h0 h1
    obtain ⟨k, rfl⟩ : ∃ m, k = m + 2 := ⟨k - 2, by omega⟩
    simp only [cordwainalike_Batches.l0, cordwainalike_Batches.j1]
    rw [if_neg (by omega), if_neg (by simp), List.drop_of_length_le (by omega)]
    exact ⟨n, rfl, fun _ => by simp [lens]⟩
  | succ d ih =>
    intro i n k hi hk h0 h1
    obtain ⟨k, rfl⟩ : ∃ m, k = m + 2 := ⟨k - 2, by omega⟩
    have hlt : i < l.length := by omega
    simp only [cordwainalike_Batches.l0, cordwainalike_Batches.j1]
    rw [if_pos (by omega)]
    by_cases hn : n ≤ 4000
    · rw [if_pos (decide_eq_true hn), if_pos (by omega), if_pos (by omega), rdb' l i hlt]
      obtain ⟨b, hbe, hb1, hb2⟩ := batch_is l[i] (hb _ (List.getElem_mem hlt)) k (by have := hN _ (List.getElem_mem hlt); omega)
      rw [hbe]
      simp only [Option.bind_some]
      rw [sum_is [b] (by intro x hx; simp at hx; omega) (by simp) n k (by simp; omega) h0 h1]
      simp only [Option.bind_some, List.sum_cons, List.sum_nil]
      have e4 : wrap64 ((i : Int) + 1) = ((i + 1 : Nat) : Int) := wrap_nat i (by omega)
      rw [e4]
      obtain ⟨r, hr, h2⟩ := ih (i + 1) (min (n + (b + 0)) 1099511627776) k (by omega) (by omega) (by omega) (by omega)
      refine ⟨r, hr, fun hr4 => ?_⟩
      have h3 := h2 hr4
      have e5 : lens (l.drop i) = ((l[i]).f5.length + 1) + lens (l.drop (i + 1)) := by
        rw [List.drop_eq_getElem_cons hlt]; rfl
      rw [e5]
      omega
    · rw [if_neg (by simpa using hn)]
      exact ⟨n, rfl, fun h => absurd h hn⟩
theorem batches_is (l : List S28) (hl : l.length ≤ 9223372036854775807) (hb : ∀ b ∈ l, b.f5.length ≤ 9223372036854775807) : ∃ k r, cordwainalike_Batches.f k l 4000 = some r ∧ (r ≤ 4000 → (lens l : Int) ≤ 4000) := by
  have hN : ∀ b ∈ l, b.f5.length ≤ lens l := fun b hbm => by
    have key : ∀ m : List S28, b ∈ m → b.f5.length + 1 ≤ lens m := by
      intro m
      induction m with
      | nil => intro h; cases h
      | cons c m ih =>
        intro h
        have e : lens (c :: m) = (c.f5.length + 1) + lens m := rfl
        rw [e]
        rcases List.mem_cons.1 h with rfl | h
        · omega
        · have := ih h; omega
    have := key l hbm
    omega
  obtain ⟨r, h1, h2⟩ := batches_from l hl hb (lens l) hN l.length 0 0 (2 * l.length + lens l + 11) (by omega) (by omega) (by omega) (by omega)
  exact ⟨_, r, h1, fun h => by have := h2 h; simp at this; omega⟩
/-- Whether batches are looked at: always told; those that are, are few. -/
theorem small_from (l : List S28) (hl : l.length ≤ 9223372036854775807) (K : Nat) (r0 : Int) (hK : cordwainalike_Batches.f K l 4000 = some r0) : ∀ (d i k : Nat), d + i = l.length → 2 * d + 2 + K ≤ k →
    ∃ r, cordwainlaw10_small.l0 k l (i : Int) = some r ∧ (r = true → l.length ≤ 80) := by
  have fin : ∀ k, K ≤ k → ∃ r, (if (l.length : Int) ≤ 80 then ((cordwainalike_Batches.f k l 4000).bind fun t121 => (some (decide (t121 ≤ 4000)))) else (some false)) = some r ∧ (r = true → l.length ≤ 80) := by
    intro k hk
    have hb : cordwainalike_Batches.f k l 4000 = some r0 := by
      have hmono : ∀ n, K ≤ n → cordwainalike_Batches.f n l 4000 = some r0 := by
        intro n hn
        induction n with
        | zero => obtain rfl : K = 0 := by omega
                  exact hK
        | succ n ih =>
          by_cases e : K = n + 1
          · subst e; exact hK
          · exact cordwainalike_Batches.mono l 4000 n r0 (ih (by omega))
      exact hmono k hk
    by_cases h80 : (l.length : Int) ≤ 80
    · rw [if_pos h80, hb]
      exact ⟨_, rfl, fun _ => by omega⟩
    · rw [if_neg h80]
      exact ⟨false, rfl, fun h => by cases h⟩
  intro d
  induction d with
  | zero =>
    intro i k hi hk
    obtain ⟨k, rfl⟩ : ∃ m, k = m + 2 := ⟨k - 2, by omega⟩
    simp only [cordwainlaw10_small.l0, cordwainlaw10_small.j1]
    rw [if_neg (by omega), if_neg (by simp)]
    exact fin k (by omega)
  | succ d ih =>
    intro i k hi hk
    obtain ⟨k, rfl⟩ : ∃ m, k = m + 2 := ⟨k - 2, by omega⟩
    simp only [cordwainlaw10_small.l0, cordwainlaw10_small.j1]
    rw [if_pos (by omega)]
    by_cases h80 : (i : Int) ≤ 80
    · rw [if_pos (decide_eq_true h80), if_pos (by omega), if_pos (by omega)]
      by_cases h1 : (rd_T28 l (i : Int)).f4 > 1099511627776
      · rw [if_pos h1]; exact ⟨false, rfl, fun h => by cases h⟩
      · rw [if_neg h1]
        by_cases h2 : (rd_T28 l (i : Int)).f4 < 0
        · rw [if_pos h2]; exact ⟨false, rfl, fun h => by cases h⟩
        · rw [if_neg h2, wrap_nat i (by omega)]
          exact ih (i + 1) k (by omega) (by omega)
    · rw [if_neg (by simpa using h80)]
      exact fin k (by omega)
theorem small_is (l : List S28) (hl : l.length ≤ 9223372036854775807) (hb : ∀ b ∈ l, b.f5.length ≤ 9223372036854775807) : ∃ k r, cordwainlaw10_small.f k l = some r ∧ (r = true → l.length ≤ 80) := by
  obtain ⟨K, r0, hK, _⟩ := batches_is l hl hb
  obtain ⟨r, h1, h2⟩ := small_from l hl K r0 hK l.length 0 (2 * l.length + 2 + K) (by omega) (by omega)
  exact ⟨_, r, h1, h2⟩
end Go.Proofs.Ytmdgkjjdcfpjiaa.AP
