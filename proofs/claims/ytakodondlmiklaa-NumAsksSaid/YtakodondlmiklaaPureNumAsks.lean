/- Any number is written, and any bytes are read as the number that they begin with, or refused, as the document says: for all numbers and bytes. -/
import Derived.Test.YtakodondlmiklaaPNumAsksx3
import Derived.Test.YtakodondlmiklaaUseNumAsks
namespace Go.Proofs.Ytakodondlmiklaa.Pure
open Go.RowKit Go.Proofs.Ytakodondlmiklaa.PNumAsks Go.Proofs.YtakodondlmiklaaW.PrintWords Go.Proofs.YtakodondlmiklaaW.PrintLast Go.Proofs.YtakodondlmiklaaW.PrintMore Go.Proofs.Ytakodondlmiklaa.NumMath Go.Proofs.Ytakodondlmiklaa.UsePNumAsks

theorem refZag_f {u : Int} (h : 0 ≤ u) (h' : u < 18446744073709551616) : cordwainref1_Zag.f u = some (zag u) := by
  unfold cordwainref1_Zag.f zag
  rw [Int.tmod_eq_emod_of_nonneg h, Int.tdiv_eq_ediv_of_nonneg h, wrap_u64, show u / 2 % 18446744073709551616 = u / 2 from by omega]
  by_cases c : u % 2 = 1
  · rw [if_pos c, if_neg (by omega), w64 (x := u / 2) (by omega) (by omega), w64 (x := -(u / 2)) (by omega) (by omega), w64 (by omega) (by omega)]
  · rw [if_neg c, if_pos (by omega), w64 (by omega) (by omega)]

theorem refZig_f {n : Int} (h : -9223372036854775808 ≤ n ∧ n ≤ 9223372036854775807) : cordwainref1_Zig.f n = some (zig n) := by
  unfold cordwainref1_Zig.f zig
  by_cases c : n < 0
  · rw [if_pos c, if_neg (by omega), w64 (x := n + 1) (by omega) (by omega), w64 (by omega) (by omega)]
    simp only [wrap_u64]
    congr 1
    omega
  · rw [if_neg c, if_pos (by omega)]
    simp only [wrap_u64]
    congr 1
    omega

theorem refPut_l0 (f : Nat) : ∀ (k u : Nat) (out : List Int), f < k → u < 128 ^ (f + 1) → out.length + f < 140737488355327 → cordwainref1_Put.l0 k (u : Int) out = some (out ++ enc f u) := by
  induction f with
  | zero =>
    intro k u out hk hu hl
    obtain ⟨k, rfl⟩ : ∃ m, k = m + 1 := ⟨k - 1, by omega⟩
    simp only [Nat.zero_add, Nat.pow_one] at hu
    simp only [cordwainref1_Put.l0, enc]
    rw [if_neg (by omega), if_pos (by omega)]
    rw [show (u : Int) % 256 = u from by omega]
  | succ f ih =>
    intro k u out hk hu hl
    obtain ⟨k, rfl⟩ : ∃ m, k = m + 1 := ⟨k - 1, by omega⟩
    simp only [cordwainref1_Put.l0, enc]
    by_cases h : u < 128
    · rw [if_neg (by omega), if_pos (by omega), if_pos h]
      rw [show (u : Int) % 256 = u from by omega]
    · rw [if_pos (by omega), if_pos (by omega), if_neg h]
      rw [show (u : Int) / 128 = ((u / 128 : Nat) : Int) from by omega, or_128]
      have hu' : u / 128 < 128 ^ (f + 1) := by
        rw [Nat.pow_succ] at hu
        exact Nat.div_lt_of_lt_mul (by rw [Nat.mul_comm]; exact hu)
      rw [ih k (u / 128) _ (by omega) hu' (by simp only [List.length_append, List.length_cons, List.length_nil]; omega)]
      simp only [List.append_assoc, List.singleton_append]

theorem refPut_f {n : Int} (h : -9223372036854775808 ≤ n ∧ n ≤ 9223372036854775807) (k : Nat) (hk : 9 < k) : cordwainref1_Put.f k n = some (enc 9 (zig n).toNat) := by
  unfold cordwainref1_Put.f
  rw [refZig_f h]
  simp only [Option.bind_some]
  obtain ⟨e, hlt⟩ := zig_nat h
  have := refPut_l0 9 k (zig n).toNat [] hk (lt_128 hlt) (by simp)
  rw [e] at this
  simpa using this

theorem bits_u64 (op : BinOp) (x y : Int) : 0 ≤ Go.bits op .u64 x y ∧ Go.bits op .u64 x y < 18446744073709551616 := by
  unfold Go.bits
  simp only [wrap_u64]
  omega

/-- What both say of bytes: a number and how many bytes, or none. -/
def Told (o : Option (Int × Int × Int)) (q : Option (Int × Int)) : Prop := ∃ x k : Int, q = some (x, k) ∧ ((o = some (x, k, 0) ∧ 0 < k) ∨ (o = some (x, k, 2) ∧ k = 0))

theorem told_bad : Told (some (0, 0, 2)) (some (0, 0)) := ⟨0, 0, rfl, .inr ⟨rfl, rfl⟩⟩

theorem get_told (l : List Int) (d : Nat) : ∀ (i k k' : Nat) (u : Int), i + d = 11 → 2 * d + 2 ≤ k → 3 * d + 3 ≤ k' → Told (num_Get.l0 k u l (l.length : Int) (i : Int)) (cordwainref1_Get.l0 k' l u (i : Int)) := by
  induction d with
  | zero =>
    intro i k k' u hi hk hk'
    obtain ⟨k, rfl⟩ : ∃ m, k = m + 2 := ⟨k - 2, by omega⟩
    obtain ⟨k', rfl⟩ : ∃ m, k' = m + 2 := ⟨k' - 2, by omega⟩
    simp only [num_Get.l0, cordwainref1_Get.l0]
    by_cases c : (i : Int) < (l.length : Int)
    · rw [if_pos c, if_pos c, if_pos (by omega), if_pos c, if_neg (by omega), decide_eq_true (show (i : Int) ≥ 10 by omega), decide_eq_false (show ¬ (i : Int) < 10 by omega)]
      simp only [num_Get.j1, cordwainref1_Get.j1]
      exact told_bad
    · rw [if_neg c, if_neg c]
      simp only [cordwainref1_Get.j1]
      exact told_bad
  | succ d ih =>
    intro i k k' u hi hk hk'
    obtain ⟨k, rfl⟩ : ∃ m, k = m + 2 := ⟨k - 2, by omega⟩
    obtain ⟨k', rfl⟩ : ∃ m, k' = m + 3 := ⟨k' - 3, by omega⟩
    simp only [num_Get.l0, cordwainref1_Get.l0]
    by_cases c : (i : Int) < (l.length : Int)
    · rw [if_pos c, if_pos c, if_pos (by omega), if_pos c]
      by_cases c10 : i = 10
      · rw [if_neg (by omega), decide_eq_true (show (i : Int) ≥ 10 by omega), decide_eq_false (show ¬ (i : Int) < 10 by omega)]
        simp only [num_Get.j1, cordwainref1_Get.j1]
        exact told_bad
      rw [decide_eq_false (show ¬ (i : Int) ≥ 10 by omega), decide_eq_true (show (i : Int) < 10 by omega)]
      have hi0 : (0 : Int) ≤ (i : Int) := by omega
      simp only [cordwainref1_Get.j1, if_true, if_pos c, if_pos hi0]
      obtain ⟨h7, hw⟩ := w7 i (by omega)
      generalize rd l (i : Int) = b
      -- both go on from here alike
      have go : Told (num_Get.j1 (k + 1) u (i : Int) b l (l.length : Int) (i : Int) false) (cordwainref1_Get.j2 (k' + 1) l u (i : Int) b false) := by
        simp only [num_Get.j1, cordwainref1_Get.j2, Bool.false_eq_true, if_false, if_pos h7, hw]
        obtain ⟨g0, g1⟩ := bits_u64 .or u (shl .u64 (IntKind.u64.wrap (Go.bits .and .u8 b 127)) (wrap64 (7 * (i : Int))))
        generalize Go.bits .or .u64 u (shl .u64 (IntKind.u64.wrap (Go.bits .and .u8 b 127)) (wrap64 (7 * (i : Int)))) = v at g0 g1 ⊢
        rw [zag_f g0 g1, refZag_f g0 g1, Option.bind_some, Option.bind_some]
        by_cases c1 : b ≥ 128
        · have c1' : ¬ b < 128 := by omega
          simp only [if_pos c1, if_neg c1']
          exact ih (i + 1) k k' v (by omega) (by omega) (by omega)
        · have c1' : b < 128 := by omega
          simp only [if_neg c1, if_pos c1']
          by_cases c2 : b = 0
          · simp only [if_pos c2]
            by_cases c3 : (i : Int) > 0
            · simp only [if_pos c3]; exact told_bad
            · simp only [if_neg c3]
              exact ⟨_, _, rfl, .inl ⟨rfl, by omega⟩⟩
          · simp only [if_neg c2]
            exact ⟨_, _, rfl, .inl ⟨rfl, by omega⟩⟩
      by_cases c9 : (i : Int) = 9
      · rw [if_pos c9, if_pos c9]
        by_cases c1 : b > 1
        · rw [if_pos c1, decide_eq_true c1]
          simp only [num_Get.j1, cordwainref1_Get.j2]
          exact told_bad
        · rw [if_neg c1, decide_eq_false c1]; exact go
      · rw [if_neg c9, if_neg c9]; exact go
    · rw [if_neg c, if_neg c]
      simp only [cordwainref1_Get.j1]
      exact told_bad

theorem core (k : Nat) (hk : 60 ≤ k) (a0 a1 : Int) (l2 : List Int) (h0 : -9223372036854775808 ≤ a0 ∧ a0 ≤ 9223372036854775807) (h1 : 0 ≤ a1 ∧ a1 < 18446744073709551616) : cordwainlaw1_NumAsks.f k a0 a1 l2 = some true := by
  unfold cordwainlaw1_NumAsks.f
  by_cases hbig : (l2.length : Int) > 1000
  · rw [if_pos hbig, awake_f k (by omega)]; rfl
  rw [if_neg hbig]
  obtain ⟨x, j, hq, ho⟩ := get_told l2 11 0 k k 0 (by omega) (by omega) (by omega)
  have hq' : cordwainref1_Get.f k l2 = some (x, j) := by unfold cordwainref1_Get.f; simpa using hq
  rw [hq', put_f h0 k (by omega), refPut_f h0 k (by omega), zig_f h0, refZig_f h0, zag_f h1.1 h1.2, refZag_f h1.1 h1.2, size_f h0 k (by omega), awake_f k (by omega)]
  rcases ho with ⟨ho, hj⟩ | ⟨ho, hj⟩
  · have ho' : num_Get.f k l2 = some (x, j, 0) := by unfold num_Get.f; simpa using ho
    rw [ho', Option.bind_some, Option.bind_some, Option.bind_some, Option.bind_some, if_pos rfl, Option.bind_some, Option.bind_some, if_pos rfl, Option.bind_some, Option.bind_some, if_pos rfl, Option.bind_some, Option.bind_some, if_pos rfl, if_pos rfl, if_pos rfl, if_pos, if_pos rfl]
    · rfl
    · have : decide (j > 0) = true := decide_eq_true hj
      show (((0 : Int) == 0) == decide (j > 0)) = true
      rw [this]; rfl
  · have ho' : num_Get.f k l2 = some (x, j, 2) := by unfold num_Get.f; simpa using ho
    rw [ho', Option.bind_some, Option.bind_some, Option.bind_some, Option.bind_some, if_pos rfl, Option.bind_some, Option.bind_some, if_pos rfl, Option.bind_some, Option.bind_some, if_pos rfl, Option.bind_some, Option.bind_some, if_pos rfl, if_pos rfl, if_pos rfl, if_pos, if_neg (show ¬ (2 : Int) = 0 by decide), if_pos rfl]
    · rfl
    · have : decide (j > 0) = false := decide_eq_false (by omega)
      show (((2 : Int) == 0) == decide (j > 0)) = true
      rw [this]; rfl

theorem NumAsks : cordwainlaw1_NumAsks.Pure := by
  intro a0 a1 l2 w0 w1 _ _ _
  have h1 : 0 ≤ a1 ∧ a1 < 18446744073709551616 := by
    have : 0 ≤ a1 ∧ a1 ≤ 18446744073709551615 := by simpa [Lit.wf, IntKind.min, IntKind.max, IntKind.bits, IntKind.signed] using w1
    omega
  exact ⟨60, core 60 (Nat.le_refl _) a0 a1 l2 (in_i64 w0) h1⟩

end Go.Proofs.Ytakodondlmiklaa.Pure
