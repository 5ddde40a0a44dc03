import Derived.Laws.BitsLemmas
import Derived.RowKit
/-! Numbers in few bytes: zig and zag, and the bytes of a number: plain facts on whole numbers. -/
namespace Go.Proofs.Ytakodondlmiklaa.NumMath
open Go.RowKit

theorem wrap_u64 (n : Int) : IntKind.u64.wrap n = n % 18446744073709551616 := by simp [IntKind.wrap, IntKind.bits, IntKind.signed]

theorem xor_u64 (a b : Nat) (ha : a < 18446744073709551616) (hb : b < 18446744073709551616) : Go.bits .xor .u64 a b = ((a ^^^ b : Nat) : Int) := by
  have hx : a ^^^ b < 18446744073709551616 := Nat.xor_lt_two_pow (n := 64) ha hb
  have e : Go.bits .xor .u64 a b = IntKind.u64.wrap (((BitVec.ofInt 64 (a : Int)) ^^^ (BitVec.ofInt 64 (b : Int))).toNat : Int) := rfl
  rw [e, wrap_u64, BitVec.ofInt_natCast, BitVec.ofInt_natCast, BitVec.toNat_xor, BitVec.toNat_ofNat, BitVec.toNat_ofNat, Nat.mod_eq_of_lt (by simpa using ha), Nat.mod_eq_of_lt (by simpa using hb)]
  omega

theorem xor_ones (a : Nat) (ha : a < 18446744073709551616) : a ^^^ 18446744073709551615 = 18446744073709551615 - a := by
  have h := congrArg BitVec.toNat (BitVec.xor_allOnes (x := BitVec.ofNat 64 a))
  simp only [BitVec.toNat_xor, BitVec.toNat_not, BitVec.toNat_allOnes, BitVec.toNat_ofNat] at h
  rw [Nat.mod_eq_of_lt (by simpa using ha)] at h
  exact h

/-- A number without a sign. -/
def zig (n : Int) : Int := if 0 ≤ n then 2 * n else -2 * n - 1

theorem zig_range {n : Int} (h : -9223372036854775808 ≤ n) (h' : n ≤ 9223372036854775807) : 0 ≤ zig n ∧ zig n < 18446744073709551616 := by
  unfold zig; split <;> omega

theorem zig_bits {n : Int} (h : -9223372036854775808 ≤ n) (h' : n ≤ 9223372036854775807) :
    Go.bits .xor .u64 (IntKind.u64.wrap ((IntKind.u64.wrap n) * 2)) (IntKind.u64.wrap (n / 9223372036854775808)) = zig n := by
  rw [wrap_u64, wrap_u64, wrap_u64]
  by_cases hn : 0 ≤ n
  · have e1 : n % 18446744073709551616 * 2 % 18446744073709551616 = ((2 * n).toNat : Int) := by omega
    have e2 : n / 9223372036854775808 % 18446744073709551616 = ((0 : Nat) : Int) := by omega
    rw [e1, e2, xor_u64 _ _ (by omega) (by omega), Nat.xor_zero]
    unfold zig; rw [if_pos hn]; omega
  · have e1 : n % 18446744073709551616 * 2 % 18446744073709551616 = ((2 * n + 18446744073709551616).toNat : Int) := by omega
    have e2 : n / 9223372036854775808 % 18446744073709551616 = ((18446744073709551615 : Nat) : Int) := by omega
    rw [e1, e2, xor_u64 _ _ (by omega) (by omega), xor_ones _ (by omega)]
    unfold zig; rw [if_neg hn]; omega

theorem zig_mod (n : Int) : (Int.tmod (zig n) 2 = 1) ↔ n < 0 := by
  have h0 : 0 ≤ zig n := by unfold zig; split <;> omega
  rw [Int.tmod_eq_emod_of_nonneg h0]
  unfold zig; split <;> omega

/-- A number with its sign. -/
def zag (u : Int) : Int := if u % 2 = 0 then u / 2 else - (u / 2) - 1

theorem zag_zig (n : Int) : zag (zig n) = n := by
  unfold zag zig; split <;> split <;> omega

theorem and_one (u : Int) (h : 0 ≤ u) (h' : u < 18446744073709551616) : Go.bits .and .u64 u 1 = u % 2 :=
  Go.bits_mask .u64 64 (by decide) (fun n h0 h1 => by rw [wrap_u64]; omega) 1 (by decide) u h (by simpa using h')

theorem wrap_i64 (n : Int) : IntKind.i64.wrap n = wrap64 n := by rw [Go.IntKind.wrap_i64]; rfl

theorem bits_xor_i64 (x y : Int) : Go.bits .xor .i64 x y = wrap64 (((BitVec.ofInt 64 x) ^^^ (BitVec.ofInt 64 y)).toNat : Int) := (show Go.bits .xor .i64 x y = IntKind.i64.wrap (((BitVec.ofInt 64 x) ^^^ (BitVec.ofInt 64 y)).toNat : Int) from rfl).trans (wrap_i64 _)

theorem xor_i64_zero (x : Int) (h : 0 ≤ x) (h' : x < 9223372036854775808) : Go.bits .xor .i64 x 0 = x := by
  obtain ⟨a, rfl⟩ := Int.eq_ofNat_of_zero_le h
  have e : BitVec.ofInt 64 (0 : Int) = 0#64 := by decide
  rw [bits_xor_i64, e, BitVec.xor_zero, BitVec.ofInt_natCast, BitVec.toNat_ofNat, Nat.mod_eq_of_lt (by omega)]
  unfold wrap64; omega

theorem xor_i64_neg (x : Int) (h : 0 ≤ x) (h' : x < 9223372036854775808) : Go.bits .xor .i64 x (-1) = -x - 1 := by
  obtain ⟨a, rfl⟩ := Int.eq_ofNat_of_zero_le h
  have e : BitVec.ofInt 64 (-1) = BitVec.allOnes 64 := by decide
  rw [bits_xor_i64, e, BitVec.xor_allOnes, BitVec.ofInt_natCast, BitVec.toNat_not, BitVec.toNat_ofNat, Nat.mod_eq_of_lt (by omega)]
  unfold wrap64; omega

theorem zag_bits {u : Int} (h : 0 ≤ u) (h' : u < 18446744073709551616) :
    Go.bits .xor .i64 (wrap64 (u / 2)) (wrap64 (-(wrap64 (Go.bits .and .u64 u 1)))) = zag u := by
  rw [and_one u h h']
  have e1 : wrap64 (u / 2) = u / 2 := by unfold wrap64; omega
  rw [e1]
  unfold zag
  by_cases hu : u % 2 = 0
  · have e2 : wrap64 (-(wrap64 (u % 2))) = 0 := by rw [hu]; decide
    rw [e2, xor_i64_zero _ (by omega) (by omega), if_pos hu]
  · have hu1 : u % 2 = 1 := by omega
    have e2 : wrap64 (-(wrap64 (u % 2))) = -1 := by rw [hu1]; decide
    rw [e2, xor_i64_neg _ (by omega) (by omega), if_neg hu]

/-! The bytes of a number. -/

/-- The bytes of u, at most f + 1 of them. -/
def enc : Nat → Nat → List Int
  | 0, u => [(u : Int)]
  | f + 1, u => if u < 128 then [(u : Int)] else ((u % 128 + 128 : Nat) : Int) :: enc f (u / 128)

theorem or_128 (u : Nat) : Go.bits .or .u8 (((u : Int)) % 256) 128 = ((u % 128 + 128 : Nat) : Int) := by
  have e : ((u : Int)) % 256 = ((u % 256 : Nat) : Int) := by omega
  have e2 : (128 : Int) = ((128 : Nat) : Int) := rfl
  rw [e, e2, (Go.bits_nat .u8 8 (by decide) (fun n h0 h1 => Go.wraps_u8 n h0 h1) (u % 256) 128 (by omega) (by decide)).2]
  congr 1
  have h : ∀ x : Fin 256, x.val ||| 128 = x.val % 128 + 128 := by decide +kernel
  have := h ⟨u % 256, by omega⟩
  simp only at this
  rw [this]; omega

theorem enc_ne (f u : Nat) : enc f u ≠ [] := by cases f <;> simp only [enc] <;> (try split) <;> simp

theorem enc_len_pos (f u : Nat) : 1 ≤ (enc f u).length := by
  have := enc_ne f u
  have := List.length_pos_iff.2 this
  omega

theorem enc_len_le (f u : Nat) : (enc f u).length ≤ f + 1 := by
  induction f generalizing u with
  | zero => simp [enc]
  | succ f ih =>
    simp only [enc]; split
    · simp
    · have := ih (u / 128); simp only [List.length_cons]; omega

/-- Greater numbers are not shorter. -/
theorem enc_mono (f : Nat) : ∀ u v : Nat, u ≤ v → (enc f u).length ≤ (enc f v).length := by
  induction f with
  | zero => intro u v _; simp [enc]
  | succ f ih =>
    intro u v h
    simp only [enc]
    by_cases hu : u < 128
    · rw [if_pos hu]
      by_cases hv : v < 128
      · rw [if_pos hv]; simp
      · rw [if_neg hv]; simp
    · rw [if_neg hu, if_neg (by omega)]
      simp only [List.length_cons]
      have := ih (u / 128) (v / 128) (Nat.div_le_div_right h)
      omega

/-- All bytes but the last one say that more comes. -/
theorem enc_more (f : Nat) : ∀ (u j : Nat), j + 1 < (enc f u).length → 128 ≤ (enc f u).getD j 0 := by
  induction f with
  | zero => intro u j h; simp [enc] at h
  | succ f ih =>
    intro u j h
    simp only [enc] at h ⊢
    by_cases hu : u < 128
    · rw [if_pos hu] at h; simp at h
    · rw [if_neg hu] at h ⊢
      cases j with
      | zero => simp only [List.getD_cons_zero]; omega
      | succ j =>
        simp only [List.length_cons] at h
        simp only [List.getD_cons_succ]
        exact ih (u / 128) j (by omega)

theorem enc_byte (f : Nat) : ∀ (u : Nat), u < 128 ^ (f + 1) → ∀ x ∈ enc f u, 0 ≤ x ∧ x < 256 := by
  induction f with
  | zero => intro u hu x hx; simp only [enc, List.mem_singleton] at hx; subst hx; simp at hu; omega
  | succ f ih =>
    intro u hu x hx
    simp only [enc] at hx
    by_cases h : u < 128
    · rw [if_pos h, List.mem_singleton] at hx; subst hx; omega
    · rw [if_neg h, List.mem_cons] at hx
      rcases hx with rfl | hx
      · omega
      · refine ih (u / 128) ?_ x hx
        rw [Nat.pow_succ] at hu
        exact Nat.div_lt_of_lt_mul (by rw [Nat.mul_comm]; exact hu)

theorem or_ge (x : Int) (h : 0 ≤ x) (h' : x < 256) : 128 ≤ Go.bits .or .u8 x 128 := by
  have e := or_128 x.toNat
  have e1 : ((x.toNat : Nat) : Int) % 256 = x := by omega
  rw [e1] at e
  rw [e]; omega

end Go.Proofs.Ytakodondlmiklaa.NumMath
