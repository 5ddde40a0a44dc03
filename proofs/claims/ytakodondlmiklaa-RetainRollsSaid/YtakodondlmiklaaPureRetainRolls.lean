/- A segment without bytes is never full; one is full when one more would be too many bytes, or its first record is too old, and not ahead of it: for all numbers that the statement lets in. -/
import Derived.Test.YtakodondlmiklaaPRetainRollsx2
namespace Go.Proofs.Ytakodondlmiklaa.Pure
open Go.RowKit Go.Proofs.Ytakodondlmiklaa.PRetainRolls Go.Proofs.YtakodondlmiklaaW.PrintWords Go.Proofs.YtakodondlmiklaaW.PrintLast Go.Proofs.YtakodondlmiklaaW.PrintMore

theorem w64 {x : Int} (h0 : -9223372036854775808 ≤ x) (h1 : x < 9223372036854775808) : wrap64 x = x := by
  unfold wrap64
  rw [Int.emod_eq_of_lt (by omega) (by omega)]
  omega
theorem wu64 (n : Int) : IntKind.u64.wrap n = n % 18446744073709551616 := by simp [IntKind.wrap, IntKind.bits, IntKind.signed]

theorem awake_f (k : Nat) (hk : 40 ≤ k) : cordwainlaw11_awake.f k = some true := at_rounds cordwainlaw11_awake.mono hk (by decide +kernel)

theorem hold_f {n : Int} (h0 : 0 ≤ n) (h1 : n ≤ 1125899906842624) : retain_hold.f n = some n := by
  unfold retain_hold.f mn mx
  rw [if_neg (by omega), if_neg (by omega)]

def Small (n : Int) : Prop := 0 ≤ n ∧ n ≤ 1099511627776

theorem old_f {now since age : Int} (h0 : Small now) (h1 : Small since) (h2 : Small age) : retain_old.f now since age = some (decide (age > 0 ∧ now - since > age)) := by
  obtain ⟨a0, a1⟩ := h0; obtain ⟨b0, b1⟩ := h1; obtain ⟨c0, c1⟩ := h2
  unfold retain_old.f
  by_cases ha : age > 0
  · rw [if_pos ha]
    by_cases hb : now > since
    · rw [if_pos hb, wu64, wu64, wu64, wu64]
      congr 1
      rw [decide_eq_decide]
      omega
    · rw [if_neg hb]
      congr 1
      rw [eq_comm, decide_eq_false_iff_not]
      omega
  · rw [if_neg ha]
    congr 1
    rw [eq_comm, decide_eq_false_iff_not]
    omega

theorem rolls_f {b more most first age now : Int} (hb : Small b) (hm : Small more) (hf : Small first) (ha : Small age) (hn : Small now) :
    retain_Rolls.f 0 0 b first 0 most age 0 0 0 false 0 0 false now more = some (decide (b > 0 ∧ (b + more > most ∨ age > 0 ∧ now - first > age))) := by
  have hb' := hb; have hm' := hm
  obtain ⟨b0, b1⟩ := hb'; obtain ⟨m0, m1⟩ := hm'
  unfold retain_Rolls.f
  by_cases h : b ≤ 0
  · rw [if_pos h]
    congr 1
    rw [eq_comm, decide_eq_false_iff_not]
    omega
  · rw [if_neg h, hold_f b0 (by omega), hold_f m0 (by omega), Option.bind_some, Option.bind_some, w64 (by omega) (by omega)]
    by_cases hg : b + more > most
    · rw [if_pos hg]
      congr 1
      rw [eq_comm, decide_eq_true_iff]
      omega
    · rw [if_neg hg, old_f hn hf ha, Option.bind_some]
      congr 1
      rw [decide_eq_decide]
      omega

theorem j0_true (k : Nat) (hk : 41 ≤ k) (x0 x1 x2 x3 x4 x5 : Int) : cordwainlaw11_RetainRolls.j0 k x0 x1 x2 x3 x4 x5 true = some true := by
  obtain ⟨k, rfl⟩ : ∃ m, k = m + 1 := ⟨k - 1, by omega⟩
  simp only [cordwainlaw11_RetainRolls.j0]
  rw [if_pos trivial, awake_f k (by omega)]; rfl

theorem j0_false (k : Nat) (hk : 41 ≤ k) (x0 x1 x2 x3 x4 x5 : Int) (h0 : Small x0) (h1 : Small x1) (h2 : Small x2) (h3 : Small x3) (h4 : Small x4) (h5 : Small x5) :
    cordwainlaw11_RetainRolls.j0 k x0 x1 x2 x3 x4 x5 false = some true := by
  obtain ⟨k, rfl⟩ : ∃ m, k = m + 1 := ⟨k - 1, by omega⟩
  have e := rolls_f h0 h1 (most := x2) h3 h4 h5
  obtain ⟨a0, a1⟩ := h0; obtain ⟨b0, b1⟩ := h1; obtain ⟨c0, c1⟩ := h2; obtain ⟨d0, d1⟩ := h3; obtain ⟨e0, e1⟩ := h4; obtain ⟨f0, f1⟩ := h5
  simp only [cordwainlaw11_RetainRolls.j0]
  rw [if_neg (by decide), e, Option.bind_some, w64 (x := x0 + x1) (by omega) (by omega), w64 (x := x5 - x3) (by omega) (by omega), awake_f k (by omega), Option.bind_some]
  by_cases p : x0 > 0
  · rw [if_pos p]
    by_cases q : x0 + x1 > x2
    · rw [if_pos q, if_pos]
      rw [show decide (x0 > 0 ∧ (x0 + x1 > x2 ∨ x4 > 0 ∧ x5 - x3 > x4)) = true from decide_eq_true ⟨p, .inl q⟩]; rfl
    · rw [if_neg q]
      by_cases r : x4 > 0
      · rw [if_pos r, if_pos]
        rw [show decide (x0 > 0 ∧ (x0 + x1 > x2 ∨ x4 > 0 ∧ x5 - x3 > x4)) = decide (x5 - x3 > x4) from by rw [decide_eq_decide]; omega]
        exact beq_self_eq_true _
      · rw [if_neg r, if_pos]
        rw [show decide (x0 > 0 ∧ (x0 + x1 > x2 ∨ x4 > 0 ∧ x5 - x3 > x4)) = false from decide_eq_false (by omega)]; rfl
  · rw [if_neg p, if_pos]
    rw [show decide (x0 > 0 ∧ (x0 + x1 > x2 ∨ x4 > 0 ∧ x5 - x3 > x4)) = false from decide_eq_false (by omega)]; rfl

theorem RetainRolls : cordwainlaw11_RetainRolls.Pure := by
  intro a0 a1 a2 a3 a4 a5 _ _ _ _ _ _
  refine ⟨41, ?_⟩
  generalize hk : (41 : Nat) = k
  have hk' : 41 ≤ k := by omega
  have ht := j0_true k hk' a0 a1 a2 a3 a4 a5
  unfold cordwainlaw11_RetainRolls.f
  by_cases c1 : a0 < 0
  · rw [if_pos c1, ht]
  rw [if_neg c1]
  by_cases c2 : a0 > 1099511627776
  · rw [if_pos c2, ht]
  rw [if_neg c2]
  by_cases c3 : a1 < 0
  · rw [if_pos c3, ht]
  rw [if_neg c3]
  by_cases c4 : a1 > 1099511627776
  · rw [if_pos c4, ht]
  rw [if_neg c4]
  by_cases c5 : a2 < 0
  · rw [if_pos c5, ht]
  rw [if_neg c5]
  by_cases c6 : a2 > 1099511627776
  · rw [if_pos c6, ht]
  rw [if_neg c6]
  by_cases c7 : a3 < 0
  · rw [if_pos c7, ht]
  rw [if_neg c7]
  by_cases c8 : a3 > 1099511627776
  · rw [if_pos c8, ht]
  rw [if_neg c8]
  by_cases c9 : a4 < 0
  · rw [if_pos c9, ht]
  rw [if_neg c9]
  by_cases c10 : a4 > 1099511627776
  · rw [if_pos c10, ht]
  rw [if_neg c10]
  by_cases c11 : a5 < 0
  · rw [if_pos c11, ht]
  rw [if_neg c11]
  by_cases c12 : a5 > 1099511627776
  · rw [decide_eq_true c12, ht]
  rw [decide_eq_false c12]
  exact j0_false k hk' a0 a1 a2 a3 a4 a5 ⟨by omega, by omega⟩ ⟨by omega, by omega⟩ ⟨by omega, by omega⟩ ⟨by omega, by omega⟩ ⟨by omega, by omega⟩ ⟨by omega, by omega⟩

end Go.Proofs.Ytakodondlmiklaa.Pure
