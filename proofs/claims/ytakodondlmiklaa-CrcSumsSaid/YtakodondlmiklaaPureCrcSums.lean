/- Any bytes have one sum, however they are cut. -/
import Derived.Test.YtakodondlmiklaaUCrcSums
namespace Go.Proofs.Ytakodondlmiklaa.Pure
open Go.RowKit Go.Proofs.Ytakodondlmiklaa.PCrcSums Go.Proofs.Ytakodondlmiklaa.PCrcSumsU Go.Proofs.YtakodondlmiklaaW.PrintWords Go.Proofs.YtakodondlmiklaaW.PrintLast Go.Proofs.YtakodondlmiklaaW.PrintMore

theorem satsum (k : Nat) (hk : 3 ≤ k) (n m : Int) (h0 : 0 ≤ n) (h1 : n ≤ 2000) (h2 : 0 ≤ m) :
    ∃ r, cordwainalike_Sum.f k n [m, 1] = some r ∧ 0 ≤ r ∧ (r ≤ 2000 → r = n + m + 1) := by
  obtain ⟨k, rfl⟩ : ∃ q, k = q + 3 := ⟨k - 3, by omega⟩
  unfold cordwainalike_Sum.f
  simp only [cordwainalike_Sum.l0]
  have e0 : rd [m, 1] 0 = m := rfl
  have e1 : rd [m, 1] 1 = 1 := rfl
  rw [if_pos (by simp), if_neg (by omega), if_pos (by omega), e0, w64 (x := 1099511627776 - n) (by omega) (by omega)]
  by_cases c : m > 1099511627776 - n
  · rw [if_pos c]; exact ⟨_, rfl, by omega, by omega⟩
  · rw [if_neg c, w64 (x := n + m) (by omega) (by omega), w64 (x := 0 + 1) (by omega) (by omega), show (0 + 1 : Int) = 1 from rfl, if_pos (by simp), if_neg (by omega), if_pos (by omega), e1, w64 (x := 1099511627776 - (n + m)) (by omega) (by omega)]
    by_cases c2 : 1 > 1099511627776 - (n + m)
    · rw [if_pos c2]; exact ⟨_, rfl, by omega, by omega⟩
    · rw [if_neg c2, w64 (x := n + m + 1) (by omega) (by omega), w64 (x := 1 + 1) (by omega) (by omega), if_neg (by simp)]
      exact ⟨_, rfl, by omega, fun _ => rfl⟩

theorem flat_len : ∀ (l : List (List Int)) (x : List Int), x ∈ l → x.length ≤ l.flatten.length
  | [], _, h => by simp at h
  | a :: d, x, h => by
    rw [List.flatten_cons, List.length_append]
    rcases List.mem_cons.1 h with rfl | h
    · omega
    · have := flat_len d x h; omega

theorem sums_l1 (B : Nat) (hB : 30000 ≤ B) : ∀ (d p l : List (List Int)) (k : Nat), l = p ++ d → l.length ≤ 9223372036854775807 → l.flatten.length ≤ 2000 → l.length + d.length + B ≤ k →
    cordwainlaw2_CrcSums.l1 k l p.flatten (M 0 p.flatten) (p.length : Int) (M 0 p.flatten) = some true
  | [], p, l, k, e, hl, hf, hk => by
    obtain ⟨k, rfl, hk⟩ := succ_of (show l.length + (B - 1) + 1 ≤ k by simp only [List.length_nil] at hk; omega)
    have e' : l = p := by simpa using e
    subst e'
    simp only [cordwainlaw2_CrcSums.l1]
    rw [if_neg (by omega), refsum_f k _ (by omega) (by omega), Option.bind_some,
      sum_f k [l.flatten] 2000 (by simp) (fun x h => by rw [List.mem_singleton.1 h]; exact hf) (by omega) (by simp; omega), Option.bind_some, show [l.flatten].flatten = l.flatten from by simp, if_pos rfl,
      sum_f k l 2000 hl (fun x h => Nat.le_trans (flat_len l x h) hf) (by omega) (by omega), Option.bind_some, if_pos rfl, if_pos rfl]
    unfold crc_Roller_Sum.f
    rw [Option.bind_some, if_pos rfl, awake_f k (by omega), Option.bind_some]
  | c :: d, p, l, k, e, hl, hf, hk => by
    obtain ⟨k, rfl, hk⟩ := succ_of (show l.length + d.length + B + 1 ≤ k by simp at hk; omega)
    have hln : l.length = p.length + d.length + 1 := by subst e; simp; omega
    have hx : rd_L2 l (p.length : Int) = c := by subst e; exact rdL_mid p d c
    have hfl : p.flatten.length + c.length ≤ 2000 := by subst e; simp at hf; simp; omega
    have ih := sums_l1 B hB d (p ++ [c]) l k (by subst e; simp) hl hf (by omega)
    have ef : (p ++ [c]).flatten = p.flatten ++ c := by simp
    simp only [cordwainlaw2_CrcSums.l1]
    rw [if_pos (by omega), if_pos (by omega), hx, if_pos (by omega), more_f k _ c (by omega) (by omega), Option.bind_some]
    unfold crc_Roller_Add.f
    rw [more_f k _ c (by omega) (by omega), Option.bind_some, Option.bind_some, w64 (by omega) (by omega), M_app, show ((p.length : Int) + 1) = ((p ++ [c]).length : Int) from by simp, ← ef]
    exact ih

theorem sums_j1 (B : Nat) (hB : 30000 ≤ B) (l : List (List Int)) (n : Int) (k : Nat) (hl : l.length ≤ 9223372036854775807) (hf : n ≤ 2000 → l.flatten.length ≤ 2000) (hk : 2 * l.length + B + 1 ≤ k) : cordwainlaw2_CrcSums.j1 k l n = some true := by
  obtain ⟨k, rfl, hk⟩ := succ_of hk
  simp only [cordwainlaw2_CrcSums.j1]
  by_cases c : n > 2000
  · rw [if_pos c, awake_f k (by omega)]; rfl
  · rw [if_neg c, sum_f k [] 0 (by simp) (fun x h => by simp at h) (by omega) (by simp; omega), Option.bind_some]
    have e0 : M 0 ([] : List (List Int)).flatten = M 0 ([] : List (List Int)).flatten := rfl
    have h := sums_l1 B hB l [] l k rfl hl (hf (by omega)) (by omega)
    exact h

theorem sums_l0 (B : Nat) (hB : 30000 ≤ B) : ∀ (d p l : List (List Int)) (k : Nat) (n : Int), l = p ++ d → l.length ≤ 9223372036854775807 → 0 ≤ n → (n ≤ 2000 → (p.flatten.length : Int) ≤ n) → 2 * l.length + d.length + B + 2 ≤ k →
    cordwainlaw2_CrcSums.l0 k l n (p.length : Int) = some true
  | [], p, l, k, n, e, hl, h0, hn, hk => by
    obtain ⟨k, rfl, hk⟩ := succ_of (show 2 * l.length + B + 1 + 1 ≤ k by simp at hk; omega)
    have e' : l = p := by simpa using e
    subst e'
    simp only [cordwainlaw2_CrcSums.l0]
    rw [if_neg (by omega)]
    exact sums_j1 B hB l n k hl (fun h => by have := hn h; omega) (by omega)
  | c :: d, p, l, k, n, e, hl, h0, hn, hk => by
    obtain ⟨k, rfl, hk⟩ := succ_of (show 2 * l.length + d.length + B + 2 + 1 ≤ k by simp at hk; omega)
    have hln : l.length = p.length + d.length + 1 := by subst e; simp; omega
    have hc : rd_L2 l (p.length : Int) = c := by subst e; exact rdL_mid p d c
    simp only [cordwainlaw2_CrcSums.l0]
    rw [if_pos (by omega)]
    by_cases c1 : n ≤ 2000
    · rw [if_pos c1, if_pos (by omega), hc]
      obtain ⟨r, hr, hr0, hr1⟩ := satsum k (by omega) n (c.length : Int) h0 c1 (by omega)
      rw [hr, Option.bind_some, w64 (by omega) (by omega), show ((p.length : Int) + 1) = ((p ++ [c]).length : Int) from by simp]
      refine sums_l0 B hB d (p ++ [c]) l k r (by subst e; simp) hl hr0 (fun h => ?_) (by omega)
      have h1 := hr1 h
      have h2 := hn c1
      have e3 : (p ++ [c]).flatten.length = p.flatten.length + c.length := by rw [List.flatten_append, List.length_append]; simp
      rw [e3]
      omega
    · rw [if_neg c1]
      exact sums_j1 B hB l n k hl (fun h => absurd h c1) (by omega)

theorem CrcSums : cordwainlaw2_CrcSums.Pure := by
  intro l hq
  refine ⟨3 * l.length + 30002, ?_⟩
  generalize hk : 3 * l.length + 30002 = k
  generalize hb : (30000 : Nat) = B
  have hB : 30000 ≤ B := by omega
  have hk' : 3 * l.length + B + 2 ≤ k := by omega
  clear hk hb
  have hl : l.length ≤ 9223372036854775807 := hq.1
  exact sums_l0 B hB l [] l _ 0 rfl hl (by omega) (fun _ => by simp) (by omega)

end Go.Proofs.Ytakodondlmiklaa.Pure
