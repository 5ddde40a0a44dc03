/- What the program's numbers come to, and what both say of any bytes. -/
import Derived.Test.YtakodondlmiklaaNumMath
import Derived.Test.YtakodondlmiklaaPNumWalksx1
/-! What the program's numbers (num) come to, in the plain words of NumMath. -/
namespace Go.Proofs.Ytakodondlmiklaa.UsePNumWalks
open Go.RowKit Go.Proofs.Ytakodondlmiklaa.PNumWalks Go.Proofs.YtakodondlmiklaaW.PrintWords Go.Proofs.YtakodondlmiklaaW.PrintLast Go.Proofs.YtakodondlmiklaaW.PrintMore Go.Proofs.Ytakodondlmiklaa.NumMath

theorem w64 {x : Int} (h0 : -9223372036854775808 ≤ x) (h1 : x < 9223372036854775808) : wrap64 x = x := by
  unfold wrap64
  rw [Int.emod_eq_of_lt (by omega) (by omega)]
  omega

theorem w7 (i : Nat) (h : i < 10) : 0 ≤ wrap64 (7 * (i : Int)) ∧ wrap64 ((i : Int) + 1) = ((i + 1 : Nat) : Int) := by
  rw [w64 (by omega) (by omega), w64 (by omega) (by omega)]
  omega

theorem in_i64 {n : Int} (h : (Lit.int .i64 n).wf = true) : -9223372036854775808 ≤ n ∧ n ≤ 9223372036854775807 := by
  simpa [Lit.wf, IntKind.min, IntKind.max, IntKind.bits, IntKind.signed] using h

theorem zig_f {n : Int} (h : -9223372036854775808 ≤ n ∧ n ≤ 9223372036854775807) : num_Zig.f n = some (zig n) := by
  unfold num_Zig.f; rw [zig_bits h.1 h.2]

theorem zag_f {u : Int} (h : 0 ≤ u) (h' : u < 18446744073709551616) : num_Zag.f u = some (zag u) := by
  unfold num_Zag.f; rw [zag_bits h h']

theorem put_l0 (f : Nat) : ∀ (k u : Nat) (out : List Int), f < k → u < 128 ^ (f + 1) → out.length + f < 140737488355327 → num_Put.l0 k out (u : Int) = some (out ++ enc f u) := by
  induction f with
  | zero =>
    intro k u out hk hu hl
    obtain ⟨k, rfl⟩ : ∃ m, k = m + 1 := ⟨k - 1, by omega⟩
    simp only [Nat.zero_add, Nat.pow_one] at hu
    simp only [num_Put.l0, enc]
    rw [if_neg (by omega), if_pos (by omega)]
    rw [show (u : Int) % 256 = u from by omega]
  | succ f ih =>
    intro k u out hk hu hl
    obtain ⟨k, rfl⟩ : ∃ m, k = m + 1 := ⟨k - 1, by omega⟩
    simp only [num_Put.l0, enc]
    by_cases h : u < 128
    · rw [if_neg (by omega), if_pos (by omega), if_pos h]
      rw [show (u : Int) % 256 = u from by omega]
    · rw [if_pos (by omega), if_pos (by omega), if_neg h]
      rw [show (u : Int) / 128 = ((u / 128 : Nat) : Int) from by omega, or_128]
      have hu' : u / 128 < 128 ^ (f + 1) := by
        rw [Nat.pow_succ] at hu
        exact Nat.div_lt_of_lt_mul (by rw [Nat.mul_comm]; exact hu)
      rw [ih k (u / 128) _ (by omega) hu' (by simp only [List.length_append, List.length_cons, List.length_nil]; omega)]
      simp only [List.append_assoc, List.singleton_append]

theorem zig_nat {n : Int} (h : -9223372036854775808 ≤ n ∧ n ≤ 9223372036854775807) : (((zig n).toNat : Nat) : Int) = zig n ∧ (zig n).toNat < 18446744073709551616 := by
  have := zig_range h.1 h.2
  omega

theorem put_f {n : Int} (h : -9223372036854775808 ≤ n ∧ n ≤ 9223372036854775807) (k : Nat) (hk : 9 < k) : num_Put.f k n = some (enc 9 (zig n).toNat) := by
  unfold num_Put.f
  rw [zig_f h]
  simp only [Option.bind_some]
  obtain ⟨e, hlt⟩ := zig_nat h
  have := put_l0 9 k (zig n).toNat [] hk (by simp; omega) (by simp)
  rw [e] at this
  simpa using this

theorem join_bits (i : Nat) (hi : i ≤ 9) (acc d : Nat) (ha : acc < 2 ^ (7 * i)) (hd : d < 128) (hd' : d * 2 ^ (7 * i) < 18446744073709551616) :
    Go.bits .or .u64 (acc : Int) (shl .u64 (IntKind.u64.wrap (d : Int)) (wrap64 (7 * (i : Int)))) = ((acc + d * 2 ^ (7 * i) : Nat) : Int) := by
  have e0 : wrap64 (7 * (i : Int)) = ((7 * i : Nat) : Int) := by rw [w64 (by omega) (by omega)]; omega
  have e1 : IntKind.u64.wrap (d : Int) = (d : Int) := by rw [wrap_u64]; omega
  have e2 : shl .u64 (d : Int) ((7 * i : Nat) : Int) = ((d * 2 ^ (7 * i) : Nat) : Int) := by
    unfold shl
    rw [Int.toNat_natCast, Nat.min_eq_left (by simp only [IntKind.bits]; omega), wrap_u64]
    rw [show ((d : Int) * 2 ^ (7 * i)) = ((d * 2 ^ (7 * i) : Nat) : Int) from by simp]
    omega
  have hp : (2 : Nat) ^ (7 * i) ≤ 2 ^ 63 := Nat.pow_le_pow_right (by decide) (by omega)
  rw [e0, e1, e2, (Go.bits_nat .u64 64 (by decide) (fun n h0 h1 => by rw [wrap_u64]; omega) acc (d * 2 ^ (7 * i)) (by omega) (by omega)).2]
  have := Nat.two_pow_add_eq_or_of_lt ha d
  rw [Nat.or_comm, Nat.mul_comm d, ← this, Nat.add_comm]

theorem and_127 (c : Nat) (h : c < 256) : Go.bits .and .u8 (c : Int) 127 = ((c % 128 : Nat) : Int) := by
  have := Go.bits_mask .u8 8 (by decide) (fun n h0 h1 => Go.wraps_u8 n h0 h1) 7 (by decide) (c : Int) (by omega) (by omega)
  have e : (2 : Int) ^ 7 = 128 := by decide
  rw [e, show ((128 : Int) - 1) = 127 from by decide] at this
  rw [this]; omega

theorem rd_mid (p : List Int) (c : Int) (t : List Int) : rd (p ++ c :: t) (p.length : Int) = c := by
  unfold rd; simp

/-- The last byte of a number. -/
theorem get_last (i u acc k P Q : Nat) (p t l : List Int) (hP : P = 2 ^ (7 * i)) (hQ : Q = u * P) (hi : i ≤ 9) (hu : u < 128) (hu9 : i = 9 → u < 2) (hp2 : acc + Q < 18446744073709551616) (ha : acc < P) (hz : 0 < u ∨ i = 0) (hp : p.length = i) (hl : l = p ++ (u : Int) :: t) (hk : 2 < k) :
    num_Get.l0 k (acc : Int) l (l.length : Int) (i : Int) = some (zag ((acc + Q : Nat) : Int), ((i + 1 : Nat) : Int), 0) := by
  obtain ⟨k, rfl⟩ : ∃ m, k = m + 2 := ⟨k - 2, by clear hP hQ; omega⟩
  have hc : rd l (i : Int) = (u : Int) := by rw [hl, ← hp]; exact rd_mid p u t
  have hi0 : (i : Int) < (l.length : Int) := by rw [hl, ← hp]; simp; omega
  have c1 : ¬ (decide ((i : Int) ≥ 10) = true) := by simp; clear hP hQ; omega
  have c2 : ¬ ((u : Int) ≥ 128) := by clear hP hQ; omega
  have c3 : (u : Int) = 0 → ¬ ((i : Int) > 0) := by clear hP hQ; omega
  have c4 : (i : Int) = 9 → ¬ ((u : Int) > 1) := by clear hP hQ; omega
  have c5 : (0 : Int) ≤ i := by omega
  obtain ⟨h7, hw⟩ := w7 i (by clear hP hQ; omega)
  have hzg := zag_f (u := ((acc + Q : Nat) : Int)) (by clear hP hQ; omega) (by clear hP hQ; omega)
  have hm := and_127 u (by clear hP hQ; omega)
  rw [Nat.mod_eq_of_lt hu] at hm
  have hjb := join_bits i hi acc u (by rw [← hP]; exact ha) hu (by rw [← hP, ← hQ]; clear hP hQ; omega)
  rw [← hP, ← hQ] at hjb
  have hj : num_Get.j1 (k + 1) (acc : Int) (i : Int) (u : Int) l (l.length : Int) (i : Int) (decide ((i : Int) ≥ 10)) = some (zag ((acc + Q : Nat) : Int), ((i + 1 : Nat) : Int), 0) := by
    simp only [num_Get.j1]
    rw [if_neg c1, if_pos h7, if_neg c2, hm, hjb, hzg, hw]
    simp only [Option.bind_some]
    by_cases h0 : (u : Int) = 0
    · rw [if_pos h0, if_neg (c3 h0)]
    · rw [if_neg h0]
  simp only [num_Get.l0]
  rw [if_pos hi0, if_pos c5, if_pos hi0, hc]
  by_cases h9 : (i : Int) = 9
  · rw [if_pos h9, if_neg (c4 h9)]; exact hj
  · rw [if_neg h9]; exact hj

/-- A byte that says that more comes. -/
theorem get_step (i d acc k P Q : Nat) (l : List Int) (hP : P = 2 ^ (7 * i)) (hQ : Q = d * P) (hi : i < 9) (hd : d < 128) (hQ2 : Q < 18446744073709551616) (ha : acc < P) (hlt : i < l.length) (hc : rd l (i : Int) = ((d + 128 : Nat) : Int)) :
    num_Get.l0 (k + 2) (acc : Int) l (l.length : Int) (i : Int) = num_Get.l0 k ((acc + Q : Nat) : Int) l (l.length : Int) ((i + 1 : Nat) : Int) := by
  have hw : wrap64 ((i : Int) + 1) = ((i + 1 : Nat) : Int) := by rw [w64 (by omega) (by omega)]; omega
  have h7 : 0 ≤ wrap64 (7 * (i : Int)) := by rw [w64 (by omega) (by omega)]; omega
  have hjb := join_bits i (by omega) acc d (by rw [← hP]; exact ha) hd (by rw [← hP, ← hQ]; omega)
  rw [← hP, ← hQ] at hjb
  simp only [num_Get.l0]
  rw [if_pos (by omega), if_pos (by omega), if_pos (by omega), hc, if_neg (by omega)]
  simp only [num_Get.j1]
  rw [if_neg (by simp; omega), if_pos h7, if_pos (by omega)]
  rw [and_127 _ (by omega), show (d + 128) % 128 = d from by omega, hjb, hw]

theorem pow_step (i : Nat) (hi : i < 9) : 2 ^ (7 * (i + 1)) = 128 * 2 ^ (7 * i) ∧ 2 ^ (64 - 7 * i) = 128 * 2 ^ (64 - 7 * (i + 1)) ∧ 2 ^ (64 - 7 * i) * 2 ^ (7 * i) = 18446744073709551616 := by
  refine ⟨?_, ?_, ?_⟩
  · rw [Nat.mul_add, Nat.pow_add, Nat.mul_comm]
  · rw [show 64 - 7 * i = 7 + (64 - 7 * (i + 1)) from by omega, Nat.pow_add]
  · rw [← Nat.pow_add, show 64 - 7 * i + 7 * i = 64 from by omega]

/-- A number's bytes, whatever stands behind them, are read as the number. -/
theorem get_enc (f : Nat) : ∀ (i u acc k P : Nat) (p rest l : List Int), P = 2 ^ (7 * i) → i + f = 9 → u < 2 ^ (64 - 7 * i) → acc < P → (0 < u ∨ i = 0) → p.length = i → l = p ++ enc f u ++ rest → 2 * f + 2 < k →
    num_Get.l0 k (acc : Int) l (l.length : Int) (i : Int) = some (zag ((acc + u * P : Nat) : Int), ((i + (enc f u).length : Nat) : Int), 0) := by
  induction f with
  | zero =>
    intro i u acc k P p rest l hP hif hu ha hz hp hl hk
    obtain rfl : i = 9 := by omega
    simp only [enc] at hl ⊢
    have hu2 : u < 2 := by simpa using hu
    have hP9 : P = 9223372036854775808 := by rw [hP]
    have := get_last 9 u acc k P (u * P) p rest l hP rfl (by omega) (by omega) (by omega) (by rw [hP9] at ha ⊢; omega) ha hz hp (by simpa using hl) (by omega)
    simpa using this
  | succ f ih =>
    intro i u acc k P p rest l hP hif hu ha hz hp hl hk
    obtain ⟨hp1, hp2, hp3⟩ := pow_step i (by omega)
    generalize hM : 2 ^ (64 - 7 * i) = M at hu hp2 hp3
    generalize hM1 : 2 ^ (64 - 7 * (i + 1)) = M1 at hp2
    generalize hP1 : 2 ^ (7 * (i + 1)) = P1 at hp1
    rw [← hP] at hp1 hp3
    have hfit : acc + u * P < 18446744073709551616 := by
      have h1 : (u + 1) * P ≤ M * P := Nat.mul_le_mul_right _ hu
      rw [hp3, Nat.add_mul, Nat.one_mul] at h1
      omega
    by_cases h : u < 128
    · simp only [enc] at hl ⊢
      rw [if_pos h] at hl ⊢
      have := get_last i u acc k P (u * P) p rest l hP rfl (by omega) h (by omega) hfit ha hz hp (by simpa using hl) (by omega)
      simpa using this
    · simp only [enc] at hl ⊢
      rw [if_neg h] at hl ⊢
      obtain ⟨k, rfl⟩ : ∃ m, k = m + 2 := ⟨k - 2, by omega⟩
      have hl' : l = p ++ ((u % 128 + 128 : Nat) : Int) :: (enc f (u / 128) ++ rest) := by rw [hl]; simp
      have hlen : l.length = i + 1 + (enc f (u / 128)).length + rest.length := by rw [hl']; simp [hp]; omega
      have hc : rd l (i : Int) = ((u % 128 + 128 : Nat) : Int) := by rw [hl', ← hp]; exact rd_mid _ _ _
      have hsplit : u * P = (u / 128) * P1 + (u % 128) * P := by
        have h3 : u * P = (u / 128 * 128 + u % 128) * P := by rw [Nat.div_add_mod']
        rw [h3, Nat.add_mul, hp1, Nat.mul_assoc]
      have hd : (u % 128) * P < 18446744073709551616 := by omega
      have hacc : acc + (u % 128) * P < P1 := by
        have h1 : (u % 128) * P ≤ 127 * P := Nat.mul_le_mul_right _ (by omega)
        omega
      have hu2 : u / 128 < M1 := by
        rw [hp2] at hu
        exact Nat.div_lt_of_lt_mul hu
      have hrec := ih (i + 1) (u / 128) (acc + (u % 128) * P) k P1 (p ++ [((u % 128 + 128 : Nat) : Int)]) rest l hP1.symm (by omega) (by rw [hM1]; exact hu2) hacc (Or.inl (by omega)) (by simp [hp]) (by rw [hl']; simp) (by omega)
      rw [get_step i (u % 128) acc k P ((u % 128) * P) l hP rfl (by omega) (by omega) hd ha (by omega) hc, hrec]
      rw [show acc + u % 128 * P + u / 128 * P1 = acc + u * P from by omega]
      simp only [List.length_cons, Option.some.injEq, Prod.mk.injEq, and_true, true_and]
      omega

theorem get_put {n : Int} (h : -9223372036854775808 ≤ n ∧ n ≤ 9223372036854775807) (rest : List Int) (k : Nat) (hk : 20 < k) :
    num_Get.f k (enc 9 (zig n).toNat ++ rest) = some (n, ((enc 9 (zig n).toNat).length : Int), 0) := by
  obtain ⟨e, hlt⟩ := zig_nat h
  have := get_enc 9 0 (zig n).toNat 0 k 1 [] rest (enc 9 (zig n).toNat ++ rest) rfl (by omega) (by simpa using hlt) (by omega) (.inr rfl) rfl (by simp) (by omega)
  unfold num_Get.f
  simp only [Nat.mul_one, Nat.zero_add, e, zag_zig] at this
  exact this

/-- Bytes that go on to their end, or to a byte of nought behind others, are no number. -/
theorem get_bad (l : List Int) (n : Nat) (hn : n ≤ l.length) (hb : ∀ j : Nat, j < n → 128 ≤ l.getD j 0) (he : n = l.length ∨ (0 < n ∧ n < l.length ∧ l.getD n 0 = 0)) :
    ∀ (d i k : Nat) (acc : Int), i + d = n → 2 * d + 3 ≤ k → ∃ a b : Int, num_Get.l0 k acc l (l.length : Int) (i : Int) = some (a, b, 2) := by
  intro d
  induction d with
  | zero =>
    intro i k acc hi hk
    obtain ⟨k, rfl⟩ : ∃ m, k = m + 2 := ⟨k - 2, by omega⟩
    simp only [num_Get.l0]
    rcases he with he | ⟨h0, hlt, hz⟩
    · rw [if_neg (by omega)]; exact ⟨_, _, rfl⟩
    · have hc : rd l (i : Int) = 0 := by unfold rd; rw [Int.toNat_natCast, show i = n from by omega]; exact hz
      rw [if_pos (by omega), if_pos (by omega), if_pos (by omega), hc]
      have hj : ∃ a b : Int, num_Get.j1 (k + 1) acc (i : Int) 0 l (l.length : Int) (i : Int) (decide ((i : Int) ≥ 10)) = some (a, b, 2) := by
        simp only [num_Get.j1]
        by_cases h10 : (i : Int) ≥ 10
        · rw [if_pos (by simp; omega)]; exact ⟨_, _, rfl⟩
        · have h7 : 0 ≤ wrap64 (7 * (i : Int)) := by rw [w64 (by omega) (by omega)]; omega
          rw [if_neg (by simp; omega), if_pos h7, if_neg (by omega), if_pos trivial, if_pos (by omega)]; exact ⟨_, _, rfl⟩
      by_cases h9 : (i : Int) = 9
      · rw [if_pos h9, if_neg (by omega)]; exact hj
      · rw [if_neg h9]; exact hj
  | succ d ih =>
    intro i k acc hi hk
    obtain ⟨k, rfl⟩ : ∃ m, k = m + 2 := ⟨k - 2, by omega⟩
    have hc : 128 ≤ rd l (i : Int) := by unfold rd; rw [Int.toNat_natCast]; exact hb i (by omega)
    simp only [num_Get.l0]
    rw [if_pos (by omega), if_pos (by omega), if_pos (by omega)]
    generalize hcc : rd l (i : Int) = c at hc ⊢
    by_cases h9 : (i : Int) = 9
    · rw [if_pos h9, if_pos (by omega)]
      simp only [num_Get.j1]
      exact ⟨_, _, rfl⟩
    · rw [if_neg h9]
      simp only [num_Get.j1]
      by_cases h10 : (i : Int) ≥ 10
      · rw [if_pos (by simp; omega)]; exact ⟨_, _, rfl⟩
      · have h7 : 0 ≤ wrap64 (7 * (i : Int)) := by rw [w64 (by omega) (by omega)]; omega
        rw [if_neg (by simp; omega), if_pos h7, if_pos (by omega)]
        have hw : wrap64 ((i : Int) + 1) = ((i + 1 : Nat) : Int) := by rw [w64 (by omega) (by omega)]; omega
        rw [hw]
        exact ih (i + 1) k _ (by omega) (by omega)

theorem get_bad_f (l : List Int) (n : Nat) (hn : n ≤ l.length) (hb : ∀ j : Nat, j < n → 128 ≤ l.getD j 0) (he : n = l.length ∨ (0 < n ∧ n < l.length ∧ l.getD n 0 = 0)) (k : Nat) (hk : 2 * n + 3 ≤ k) :
    ∃ a b : Int, num_Get.f k l = some (a, b, 2) := by
  obtain ⟨a, b, h⟩ := get_bad l n hn hb he n 0 k 0 (by omega) hk
  exact ⟨a, b, by unfold num_Get.f; simpa using h⟩

theorem lt_128 {u : Nat} (h : u < 18446744073709551616) : u < 128 ^ (9 + 1) := Nat.lt_trans h (by decide)

theorem awake_f (k : Nat) (hk : 40 ≤ k) : cordwainlaw1_awake.f k = some true := at_rounds cordwainlaw1_awake.mono hk (by decide +kernel)


theorem refZag_f {u : Int} (h : 0 ≤ u) (h' : u < 18446744073709551616) : cordwainref1_Zag.f u = some (zag u) := by
  unfold cordwainref1_Zag.f zag
  rw [Int.tmod_eq_emod_of_nonneg h, Int.tdiv_eq_ediv_of_nonneg h, wrap_u64, show u / 2 % 18446744073709551616 = u / 2 from by omega]
  by_cases c : u % 2 = 1
  · rw [if_pos c, if_neg (by omega), w64 (x := u / 2) (by omega) (by omega), w64 (x := -(u / 2)) (by omega) (by omega), w64 (by omega) (by omega)]
  · rw [if_neg c, if_pos (by omega), w64 (by omega) (by omega)]

theorem bits_u64 (op : BinOp) (x y : Int) : 0 ≤ Go.bits op .u64 x y ∧ Go.bits op .u64 x y < 18446744073709551616 := by
  unfold Go.bits
  simp only [wrap_u64]
  omega

/-- What both say of bytes: a number and how many bytes, or none. -/
def Told (o : Option (Int × Int × Int)) (q : Option (Int × Int)) : Prop := ∃ x k : Int, q = some (x, k) ∧ ((o = some (x, k, 0) ∧ 0 < k) ∨ (o = some (x, k, 2) ∧ k = 0))

theorem told_bad : Told (some (0, 0, 2)) (some (0, 0)) := ⟨0, 0, rfl, .inr ⟨rfl, rfl⟩⟩

theorem get_told (l : List Int) (d : Nat) : ∀ (i k k' : Nat) (u : Int), i + d = 11 → 2 * d + 2 ≤ k → 3 * d + 3 ≤ k' → Told (num_Get.l0 k u l (l.length : Int) (i : Int)) (cordwainref1_Get.l0 k' l u (i : Int)) := by
  induction d with
  | zero =>
    intro i k k' u hi hk hk'
    obtain ⟨k, rfl⟩ : ∃ m, k = m + 2 := ⟨k - 2, by omega⟩
    obtain ⟨k', rfl⟩ : ∃ m, k' = m + 2 := ⟨k' - 2, by omega⟩
    simp only [num_Get.l0, cordwainref1_Get.l0]
    by_cases c : (i : Int) < (l.length : Int)
    · rw [if_pos c, if_pos c, if_pos (by omega), if_pos c, if_neg (by omega), decide_eq_true (show (i : Int) ≥ 10 by omega), decide_eq_false (show ¬ (i : Int) < 10 by omega)]
      simp only [num_Get.j1, cordwainref1_Get.j1]
      exact told_bad
    · rw [if_neg c, if_neg c]
      simp only [cordwainref1_Get.j1]
      exact told_bad
  | succ d ih =>
    intro i k k' u hi hk hk'
    obtain ⟨k, rfl⟩ : ∃ m, k = m + 2 := ⟨k - 2, by omega⟩
    obtain ⟨k', rfl⟩ : ∃ m, k' = m + 3 := ⟨k' - 3, by omega⟩
    simp only [num_Get.l0, cordwainref1_Get.l0]
    by_cases c : (i : Int) < (l.length : Int)
    · rw [if_pos c, if_pos c, if_pos (by omega), if_pos c]
      by_cases c10 : i = 10
      · rw [if_neg (by omega), decide_eq_true (show (i : Int) ≥ 10 by omega), decide_eq_false (show ¬ (i : Int) < 10 by omega)]
        simp only [num_Get.j1, cordwainref1_Get.j1]
        exact told_bad
      rw [decide_eq_false (show ¬ (i : Int) ≥ 10 by omega), decide_eq_true (show (i : Int) < 10 by omega)]
      have hi0 : (0 : Int) ≤ (i : Int) := by omega
      simp only [cordwainref1_Get.j1, if_true, if_pos c, if_pos hi0]
      obtain ⟨h7, hw⟩ := w7 i (by omega)
      generalize rd l (i : Int) = b
      -- both go on from here alike
      have go : Told (num_Get.j1 (k + 1) u (i : Int) b l (l.length : Int) (i : Int) false) (cordwainref1_Get.j2 (k' + 1) l u (i : Int) b false) := by
        simp only [num_Get.j1, cordwainref1_Get.j2, Bool.false_eq_true, if_false, if_pos h7, hw]
        obtain ⟨g0, g1⟩ := bits_u64 .or u (shl .u64 (IntKind.u64.wrap (Go.bits .and .u8 b 127)) (wrap64 (7 * (i : Int))))
        generalize Go.bits .or .u64 u (shl .u64 (IntKind.u64.wrap (Go.bits .and .u8 b 127)) (wrap64 (7 * (i : Int)))) = v at g0 g1 ⊢
        rw [zag_f g0 g1, refZag_f g0 g1, Option.bind_some, Option.bind_some]
        by_cases c1 : b ≥ 128
        · have c1' : ¬ b < 128 := by omega
          simp only [if_pos c1, if_neg c1']
          exact ih (i + 1) k k' v (by omega) (by omega) (by omega)
        · have c1' : b < 128 := by omega
          simp only [if_neg c1, if_pos c1']
          by_cases c2 : b = 0
          · simp only [if_pos c2]
            by_cases c3 : (i : Int) > 0
            · simp only [if_pos c3]; exact told_bad
            · simp only [if_neg c3]
              exact ⟨_, _, rfl, .inl ⟨rfl, by omega⟩⟩
          · simp only [if_neg c2]
            exact ⟨_, _, rfl, .inl ⟨rfl, by omega⟩⟩
      by_cases c9 : (i : Int) = 9
      · rw [if_pos c9, if_pos c9]
        by_cases c1 : b > 1
        · rw [if_pos c1, decide_eq_true c1]
          simp only [num_Get.j1, cordwainref1_Get.j2]
          exact told_bad
        · rw [if_neg c1, decide_eq_false c1]; exact go
      · rw [if_neg c9, if_neg c9]; exact go
    · rw [if_neg c, if_neg c]
      simp only [cordwainref1_Get.j1]
      exact told_bad

end Go.Proofs.Ytakodondlmiklaa.UsePNumWalks
