/- A number has a byte for each seven binary digits of its sign and size, ten at most, and greater ones are never shorter: for all numbers. -/
import Derived.Test.YtakodondlmiklaaPNumLengthsx1
import Derived.Test.YtakodondlmiklaaUseNumLengths
namespace Go.Proofs.Ytakodondlmiklaa.Pure
open Go.RowKit Go.Proofs.Ytakodondlmiklaa.PNumLengths Go.Proofs.YtakodondlmiklaaW.PrintWords Go.Proofs.YtakodondlmiklaaW.PrintLast Go.Proofs.YtakodondlmiklaaW.PrintMore Go.Proofs.Ytakodondlmiklaa.NumMath Go.Proofs.Ytakodondlmiklaa.UsePNumLengths

theorem loop (a0 a1 : Int) (h0 : -9223372036854775808 ≤ a0 ∧ a0 ≤ 9223372036854775807) (h1 : -9223372036854775808 ≤ a1 ∧ a1 ≤ 9223372036854775807) (L : Nat) (hL : (enc 9 (zig a0).toNat).length = L) (f : Nat) :
    ∀ (k u n : Nat), f + 41 < k → u < 128 ^ (f + 1) → n + f ≤ 1000 → n + (enc f u).length = L + 1 → cordwainlaw1_NumLengths.l0 k a0 a1 (u : Int) (n : Int) = some true := by
  have last : ∀ (k u n : Nat), 41 < k → u < 128 → n = L → cordwainlaw1_NumLengths.l0 k a0 a1 (u : Int) (n : Int) = some true := by
    intro k u n hk hu hn
    obtain ⟨k, rfl⟩ : ∃ m, k = m + 1 := ⟨k - 1, by omega⟩
    simp only [cordwainlaw1_NumLengths.l0]
    rw [if_neg (by omega), zig_f h0, zig_f h1, size_f h0 k (by omega), put_f h0 k (by omega), size_f h1 k (by omega), awake_f k (by omega)]
    simp only [Option.bind_some]
    have hle := enc_len_le 9 (zig a0).toNat
    rw [hL] at hle ⊢
    rw [if_pos (by omega), if_pos (by omega), if_pos (by omega)]
    have hpar : ((decide (a0 < 0)) == ((Int.tmod (zig a0) 2) == 1)) = true := by
      have := zig_mod a0
      by_cases ha : a0 < 0
      · simp [ha, this.2 ha]
      · have hne : ¬ Int.tmod (zig a0) 2 = 1 := fun e => ha (this.1 e)
        simp [ha, hne]
    rw [if_pos hpar]
    by_cases hg : zig a0 > zig a1
    · rw [if_pos hg]
    · rw [if_neg hg]
      have hm := enc_mono 9 (zig a0).toNat (zig a1).toNat (by omega)
      rw [if_pos (by omega)]
  clear h0 h1 hL
  induction f with
  | zero =>
    intro k u n hk hu hn he
    refine last k u n (by omega) (by simpa using hu) ?_
    simp only [enc, List.length_cons, List.length_nil] at he
    omega
  | succ f ih =>
    intro k u n hk hu hn he
    simp only [enc] at he
    by_cases h : u < 128
    · rw [if_pos h] at he
      exact last k u n (by omega) h (by simpa using he)
    · rw [if_neg h] at he
      simp only [List.length_cons] at he
      obtain ⟨k, rfl⟩ : ∃ m, k = m + 1 := ⟨k - 1, by omega⟩
      simp only [cordwainlaw1_NumLengths.l0]
      rw [if_pos (by omega), show (u : Int) / 128 = ((u / 128 : Nat) : Int) from by omega, show wrap64 ((n : Int) + 1) = ((n + 1 : Nat) : Int) from by unfold wrap64; omega]
      have hu' : u / 128 < 128 ^ (f + 1) := by
        rw [Nat.pow_succ] at hu
        exact Nat.div_lt_of_lt_mul (by rw [Nat.mul_comm]; exact hu)
      exact ih k (u / 128) (n + 1) (by omega) hu' (by omega) (by omega)

theorem NumLengths : cordwainlaw1_NumLengths.Pure := by
  intro a0 a1 w0 w1
  have h0 := in_i64 w0
  have h1 := in_i64 w1
  refine ⟨60, ?_⟩
  unfold cordwainlaw1_NumLengths.f
  rw [zig_f h0]
  simp only [Option.bind_some]
  obtain ⟨hzz, hzlt⟩ := zig_nat h0
  have := loop a0 a1 h0 h1 _ rfl 9 60 (zig a0).toNat 1 (by omega) (lt_128 hzlt) (by omega) (by omega)
  rw [hzz] at this
  exact this

end Go.Proofs.Ytakodondlmiklaa.Pure
