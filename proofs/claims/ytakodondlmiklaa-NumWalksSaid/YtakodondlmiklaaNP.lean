/- A row of numbers, as bytes, in plain words. -/
import Derived.Test.YtakodondlmiklaaNU
import Derived.Test.YtakodondlmiklaaPNumWalksx2
namespace Go.Proofs.Ytakodondlmiklaa.NW
open Go.RowKit Go.Proofs.Ytakodondlmiklaa.PNumWalks Go.Proofs.YtakodondlmiklaaW.PrintWords Go.Proofs.YtakodondlmiklaaW.PrintLast Go.Proofs.YtakodondlmiklaaW.PrintMore Go.Proofs.Ytakodondlmiklaa.NumMath Go.Proofs.Ytakodondlmiklaa.UsePNumWalks
set_option linter.unusedVariables false
set_option linter.unusedSimpArgs false

/-- What bytes are walked as. -/
def Row : List Int → List Int → Prop
  | [], bs => ∃ x y : Int, num_Get.f 60 bs = some (x, y, 2)
  | n :: ns, bs => ∃ u : Nat, num_Get.f 60 bs = some (n, (u : Int), 0) ∧ 0 < u ∧ u ≤ bs.length ∧ Row ns (bs.drop u)
def in64 (n : Int) : Prop := -9223372036854775808 ≤ n ∧ n ≤ 9223372036854775807
def one (n : Int) : List Int := enc 9 (zig n).toNat
def bytes (l : List Int) : List Int := l.flatMap one
theorem one_pos (n : Int) : 0 < (one n).length := by
  have := enc_len_pos 9 (zig n).toNat
  unfold one
  omega
theorem one_le (n : Int) : (one n).length ≤ 10 := enc_len_le 9 _
theorem bytes_snoc (l : List Int) (n : Int) : bytes (l ++ [n]) = bytes l ++ one n := by simp [bytes]
theorem bytes_le : ∀ l : List Int, (bytes l).length ≤ 10 * l.length
  | [] => by simp [bytes]
  | n :: l => by
    have h1 := one_le n
    have h2 := bytes_le l
    show (one n ++ bytes l).length ≤ _
    rw [List.length_append, List.length_cons]
    omega
theorem row_of {behind : List Int} (hb : ∃ x y : Int, num_Get.f 60 behind = some (x, y, 2)) : ∀ (l : List Int), (∀ n ∈ l, in64 n) → Row l (bytes l ++ behind)
  | [], _ => hb
  | n :: l, h => by
    have h1 := get_put (h n (by simp)) (bytes l ++ behind) 60 (by decide)
    have e : bytes (n :: l) ++ behind = one n ++ (bytes l ++ behind) := by simp [bytes]
    rw [e]
    refine ⟨(one n).length, h1, one_pos n, by rw [List.length_append]; omega, ?_⟩
    rw [List.drop_left]
    exact row_of hb l (fun m hm => h m (by simp [hm]))
/-- What is read of bytes, or none. -/
theorem told_of (l : List Int) : ∃ x k : Int, cordwainref1_Get.f 60 l = some (x, k) ∧ ((0 < k) ∨ (k = 0 ∧ num_Get.f 60 l = some (x, k, 2))) := by
  obtain ⟨x, j, hq, ho⟩ := get_told l 11 0 60 60 0 (by decide) (by decide) (by decide)
  refine ⟨x, j, by unfold cordwainref1_Get.f; simpa using hq, ?_⟩
  rcases ho with ⟨ho, hj⟩ | ⟨ho, hj⟩
  · exact .inl hj
  · exact .inr ⟨hj, by unfold num_Get.f; simpa using ho⟩
theorem get_nil : ∃ x y : Int, num_Get.f 60 [] = some (x, y, 2) := ⟨0, 0, rfl⟩
theorem ints_l0 (l : List Int) : ∀ (d i k : Nat), i + d = l.length → d < k → l.length ≤ 1000000 → cordwainalike_Ints.l0 k l l (i : Int) = some true
  | 0, i, k, hi, hk, hl => by
    obtain ⟨k, rfl⟩ : ∃ m, k = m + 1 := ⟨k - 1, by omega⟩
    simp only [cordwainalike_Ints.l0]
    rw [if_neg (by omega)]
  | d + 1, i, k, hi, hk, hl => by
    obtain ⟨k, rfl⟩ : ∃ m, k = m + 1 := ⟨k - 1, by omega⟩
    simp only [cordwainalike_Ints.l0]
    have hw : wrap64 ((i : Int) + 1) = ((i + 1 : Nat) : Int) := by rw [w64 (by omega) (by omega)]; omega
    rw [if_pos (by omega), if_pos (by omega), if_pos (by omega), if_pos trivial, hw]
    exact ints_l0 l d (i + 1) k (by omega) (by omega) hl
theorem ints_f (l : List Int) (hl : l.length ≤ 1000000) : cordwainalike_Ints.f (l.length + 1) l l = some true := by
  unfold cordwainalike_Ints.f
  rw [if_pos rfl]
  exact ints_l0 l l.length 0 (l.length + 1) (by omega) (by omega) hl
end Go.Proofs.Ytakodondlmiklaa.NW
