/- What weights of lists come to. -/
import Derived.Test.YtpibjdkenifggaaPKeymapCoversx1
namespace Go.Proofs.Ytpibjdkenifggaa.KM
open Go.RowKit Go.Proofs.YtpibjdkenifggaaW.PrintWords Go.Proofs.YtpibjdkenifggaaW.PrintLast Go.Proofs.YtpibjdkenifggaaW.PrintMore Go.Proofs.Ytpibjdkenifggaa.PKeymapCovers

theorem w64 {x : Int} (h0 : 0 ≤ x) (h1 : x ≤ 4611686018427387904) : wrap64 x = x := by unfold wrap64; omega
theorem wrap_nat (i : Nat) (h : (i : Int) + 1 ≤ 9223372036854775807) : wrap64 ((i : Int) + 1) = ((i + 1 : Nat) : Int) := by
  have e : ((i + 1 : Nat) : Int) = (i : Int) + 1 := rfl
  rw [e]
  unfold wrap64
  omega
theorem sum_nonneg (l : List Int) (hl : ∀ x ∈ l, 0 ≤ x) : 0 ≤ l.sum := by
  induction l with
  | nil => simp
  | cons y l ihl =>
    rw [List.sum_cons]
    have := hl y (by simp)
    have := ihl (fun x h => hl x (by simp [h]))
    omega
theorem rd_nat (xs : List Int) (j : Nat) (h : j < xs.length) : rd xs (j : Int) = xs[j] := by
  simp [rd, List.getD_eq_getElem?_getD, h]
/-- A sum, held at a limit. -/
theorem sum_from (xs : List Int) (hx : ∀ x ∈ xs, 0 ≤ x) (hl : xs.length ≤ 1000000) : ∀ (d i : Nat) (a : Int) (k : Nat), d + i = xs.length → d < k → 0 ≤ a → a ≤ 1099511627776 →
    cordwainalike_Sum.l0 k a xs (i : Int) = some (min (a + (xs.drop i).sum) 1099511627776) := by
  intro d
  induction d with
  | zero =>
    intro i a k hi hk h0 h1
    obtain ⟨k, rfl⟩ : ∃ m, k = m + 1 := ⟨k - 1, by omega⟩
    simp only [cordwainalike_Sum.l0]
    rw [if_neg (by omega), List.drop_of_length_le (by omega)]
    simp only [List.sum_nil, Option.some.injEq]
    omega
  | succ d ih =>
    intro i a k hi hk h0 h1
    obtain ⟨k, rfl⟩ : ∃ m, k = m + 1 := ⟨k - 1, by omega⟩
    have hlt : i < xs.length := by omega
    have hxi := hx _ (List.getElem_mem hlt)
    have hs := sum_nonneg (xs.drop (i + 1)) (fun x h => hx x (List.mem_of_mem_drop h))
    have e1 : wrap64 (1099511627776 - a) = 1099511627776 - a := w64 (by omega) (by omega)
    have e3 : (xs.drop i).sum = xs[i] + (xs.drop (i + 1)).sum := by rw [List.drop_eq_getElem_cons hlt, List.sum_cons]
    simp only [cordwainalike_Sum.l0]
    rw [if_pos (by omega), if_neg (by omega), if_pos (by omega), e1, rd_nat xs i hlt, e3]
    by_cases h : xs[i] > 1099511627776 - a
    · rw [if_pos h]
      simp only [Option.some.injEq]
      omega
    · rw [if_neg h]
      have e2 : wrap64 (a + xs[i]) = a + xs[i] := w64 (by omega) (by omega)
      have e4 : wrap64 ((i : Int) + 1) = ((i + 1 : Nat) : Int) := by rw [w64 (by omega) (by omega)]; rfl
      rw [e2, e4, ih (i + 1) (a + xs[i]) k (by omega) (by omega) (by omega) (by omega)]
      simp only [Option.some.injEq]
      omega
theorem sum_is (xs : List Int) (hx : ∀ x ∈ xs, 0 ≤ x) (hl : xs.length ≤ 1000000) (a : Int) (k : Nat) (hk : xs.length < k) (h0 : 0 ≤ a) (h1 : a ≤ 1099511627776) : cordwainalike_Sum.f k a xs = some (min (a + xs.sum) 1099511627776) := by
  unfold cordwainalike_Sum.f
  have := sum_from xs hx hl xs.length 0 a k (by omega) hk h0 h1
  simpa using this

/-- A batch's weight is at least its number of records and one, or beyond all limits. -/
theorem batch_from (rs : List S42) (hl : rs.length ≤ 9223372036854775807) (z0 z1 z2 z3 z4 : Int) : ∀ (d i : Nat) (n : Int) (k : Nat), d + i = rs.length → d + 4 < k → 0 ≤ n → n ≤ 1099511627776 →
    ∃ r, cordwainalike_Batch.l0 k n (i : Int) z0 z1 z2 z3 z4 rs = some r ∧ min (n + d) 1099511627776 ≤ r ∧ r ≤ 1099511627776 := by
  intro d
  induction d with
  | zero =>
    intro i n k hi hk h0 h1
    obtain ⟨k, rfl⟩ : ∃ m, k = m + 1 := ⟨k - 1, by omega⟩
    simp only [cordwainalike_Batch.l0]
    rw [if_neg (by omega)]
    exact ⟨n, rfl, by omega, h1⟩
  | succ d ih =>
    intro i n k hi hk h0 h1
    obtain ⟨k, rfl⟩ : ∃ m, k = m + 1 := ⟨k - 1, by omega⟩
    simp only [cordwainalike_Batch.l0]
    rw [if_pos (by omega), if_pos h1, if_pos (by omega)]
    rw [sum_is [1, ((rd_T42 rs (i : Int)).f3.length : Int), ((rd_T42 rs (i : Int)).f5.length : Int)] (by intro x hx; simp at hx; omega) (by simp) n k (by simp; omega) h0 h1]
    simp only [Option.bind_some, List.sum_cons, List.sum_nil]
    have e4 : wrap64 ((i : Int) + 1) = ((i + 1 : Nat) : Int) := wrap_nat i (by omega)
    rw [e4]
    obtain ⟨r, hr, h2, h3⟩ := ih (i + 1) (min (n + (1 + (((rd_T42 rs (i : Int)).f3.length : Int) + (((rd_T42 rs (i : Int)).f5.length : Int) + 0)))) 1099511627776) k (by omega) (by omega) (by omega) (by omega)
    exact ⟨r, hr, by omega, h3⟩
theorem batch_is (b : S40) (hl : b.f5.length ≤ 9223372036854775807) (k : Nat) (hk : b.f5.length + 5 < k) : ∃ r, cordwainalike_Batch.f k b.f0 b.f1 b.f2 b.f3 b.f4 b.f5 = some r ∧ min (1 + (b.f5.length : Int)) 1099511627776 ≤ r ∧ r ≤ 1099511627776 := by
  unfold cordwainalike_Batch.f
  obtain ⟨r, h1, h2, h3⟩ := batch_from b.f5 hl b.f0 b.f1 b.f2 b.f3 b.f4 b.f5.length 0 1 k (by omega) (by omega) (by omega) (by omega)
  exact ⟨r, h1, by omega, h3⟩
def lens (l : List S40) : Nat := (l.map (fun b => b.f5.length + 1)).sum
theorem rdb' (l : List S40) (j : Nat) (h : j < l.length) : rd_T40 l (j : Int) = l[j] := by
  simp [rd_T40, List.getD_eq_getElem?_getD, h]
/-- The weight of batches: within the limit it is at least the number of records. -/
theorem batches_from (l : List S40) (hl : l.length ≤ 9223372036854775807) (hb : ∀ b ∈ l, b.f5.length ≤ 9223372036854775807) (N : Nat) (hN : ∀ b ∈ l, b.f5.length ≤ N) : ∀ (d i : Nat) (n : Int) (k : Nat), d + i = l.length → 2 * d + N + 10 < k → 0 ≤ n → n ≤ 1099511627776 →
    ∃ r, cordwainalike_Batches.l0 k l 4000 n (i : Int) = some r ∧ (r ≤ 4000 → n + (lens (l.drop i) : Int) ≤ r) := by
  intro d
  induction d with
  | zero =>
    intro i n k hi hk h0 h1
    obtain ⟨k, rfl⟩ : ∃ m, k = m + 2 := ⟨k - 2, by omega⟩
    simp only [cordwainalike_Batches.l0, cordwainalike_Batches.j1]
    rw [if_neg (by omega), if_neg (by simp), List.drop_of_length_le (by omega)]
    exact ⟨n, rfl, fun _ => by simp [lens]⟩
  | succ d ih =>
    intro i n k hi hk h0 h1
    obtain ⟨k, rfl⟩ : ∃ m, k = m + 2 := ⟨k - 2, by omega⟩
    have hlt : i < l.length := by omega
    simp only [cordwainalike_Batches.l0, cordwainalike_Batches.j1]
    rw [if_pos (by omega)]
    by_cases hn : n ≤ 4000
    · rw [if_pos (decide_eq_true hn), if_pos (by omega), if_pos (by omega), rdb' l i hlt]
      obtain ⟨b, hbe, hb1, hb2⟩ := batch_is l[i] (hb _ (List.getElem_mem hlt)) k (by have := hN _ (List.getElem_mem hlt); omega)
      rw [hbe]
      simp only [Option.bind_some]
      rw [sum_is [b] (by intro x hx; simp at hx; omega) (by simp) n k (by simp; omega) h0 h1]
      simp only [Option.bind_some, List.sum_cons, List.sum_nil]
      have e4 : wrap64 ((i : Int) + 1) = ((i + 1 : Nat) : Int) := wrap_nat i (by omega)
      rw [e4]
      obtain ⟨r, hr, h2⟩ := ih (i + 1) (min (n + (b + 0)) 1099511627776) k (by omega) (by omega) (by omega) (by omega)
      refine ⟨r, hr, fun hr4 => ?_⟩
      have h3 := h2 hr4
      have e5 : lens (l.drop i) = ((l[i]).f5.length + 1) + lens (l.drop (i + 1)) := by
        rw [List.drop_eq_getElem_cons hlt]; rfl
      rw [e5]
      omega
    · rw [if_neg (by simpa using hn)]
      exact ⟨n, rfl, fun h => absurd h hn⟩
theorem batches_is (l : List S40) (hl : l.length ≤ 9223372036854775807) (hb : ∀ b ∈ l, b.f5.length ≤ 9223372036854775807) : ∃ k r, cordwainalike_Batches.f k l 4000 = some r ∧ (r ≤ 4000 → (lens l : Int) ≤ 4000) := by
  have hN : ∀ b ∈ l, b.f5.length ≤ lens l := fun b hbm => by
    have key : ∀ m : List S40, b ∈ m → b.f5.length + 1 ≤ lens m := by
      intro m
      induction m with
      | nil => intro h; cases h
      | cons c m ih =>
        intro h
        have e : lens (c :: m) = (c.f5.length + 1) + lens m := rfl
        rw [e]
        rcases List.mem_cons.1 h with rfl | h
        · omega
        · have := ih h; omega
    have := key l hbm
    omega
  obtain ⟨r, h1, h2⟩ := batches_from l hl hb (lens l) hN l.length 0 0 (2 * l.length + lens l + 11) (by omega) (by omega) (by omega) (by omega)
  exact ⟨_, r, h1, fun h => by have := h2 h; simp at this; omega⟩
theorem lens_flat (l : List S40) : (l.flatMap (fun b => b.f5)).length + l.length = lens l := by
  induction l with
  | nil => rfl
  | cons b l ih =>
    have e : lens (b :: l) = (b.f5.length + 1) + lens l := rfl
    rw [e, List.flatMap_cons, List.length_append, List.length_cons]
    omega
theorem lens_mem (l : List S40) (b : S40) (hb : b ∈ l) : b.f5.length ≤ lens l := by
  induction l with
  | nil => cases hb
  | cons c m ih =>
    have e : lens (c :: m) = (c.f5.length + 1) + lens m := rfl
    rw [e]
    rcases List.mem_cons.1 hb with rfl | h
    · omega
    · have := ih h; omega
/-- All records of batches. -/
theorem records_from (l : List S40) (hl : lens l ≤ 4000) : ∀ (d i : Nat) (k : Nat), d + i = l.length → d < k →
    cordwainref10_Records.l0 k l ((l.take i).flatMap (fun b => b.f5)) (i : Int) = some (l.flatMap (fun b => b.f5)) := by
  intro d
  induction d with
  | zero =>
    intro i k hi hk
    obtain ⟨k, rfl⟩ : ∃ m, k = m + 1 := ⟨k - 1, by omega⟩
    simp only [cordwainref10_Records.l0]
    rw [if_neg (by omega), List.take_of_length_le (by omega)]
  | succ d ih =>
    intro i k hi hk
    obtain ⟨k, rfl⟩ : ∃ m, k = m + 1 := ⟨k - 1, by omega⟩
    have hlt : i < l.length := by omega
    have h1 := lens_flat l
    have h2 : ((l.take i).flatMap (fun b => b.f5)).length + (l[i]).f5.length ≤ (l.flatMap (fun b => b.f5)).length := by
      have e : l = l.take i ++ (l[i] :: l.drop (i + 1)) := by rw [← List.drop_eq_getElem_cons hlt, List.take_append_drop]
      conv => rhs; rw [e]
      rw [List.flatMap_append, List.flatMap_cons, List.length_append, List.length_append]
      omega
    simp only [cordwainref10_Records.l0]
    rw [if_pos (by omega), if_pos (by omega), rdb' l i hlt, if_pos (by omega), wrap_nat i (by omega)]
    have e2 : (l.take i).flatMap (fun b => b.f5) ++ (l[i]).f5 = (l.take (i + 1)).flatMap (fun b => b.f5) := by
      rw [List.take_succ_eq_append_getElem hlt, List.flatMap_append]; simp
    rw [e2]
    exact ih (i + 1) k (by omega) (by omega)
theorem records_is (l : List S40) (hl : lens l ≤ 4000) : cordwainref10_Records.f (l.length + 1) l = some (l.flatMap (fun b => b.f5)) := by
  unfold cordwainref10_Records.f
  exact records_from l hl l.length 0 (l.length + 1) (by omega) (by omega)
end Go.Proofs.Ytpibjdkenifggaa.KM
