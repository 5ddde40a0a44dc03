/- OindexBack, plain: numbers of eight bytes, entries as bytes. -/
import Derived.Test.YtpibjdkenifggaaS0
namespace Go.Proofs.Ytpibjdkenifggaa.OW
open Go.Proofs.Ytpibjdkenifggaa.H
set_option linter.unusedVariables false
theorem w64 {x : Int} (h : -9223372036854775808 ≤ x) (h' : x < 9223372036854775808) : IntKind.i64.wrap x = x := by rw [IntKind.wrap_i64]; omega
theorem w8 (x : Int) : IntKind.u8.wrap x = x % 256 := by rfl
def by8 (n : Int) (s : Int) : Int := (n / 2 ^ (8 * s).toNat) % 256
/-- The first k of eight bytes. -/
def fx (n : Int) (k : Nat) : List Int := (List.range k).map fun (j : Nat) => by8 n (7 - (j : Int))
theorem fx_succ (n : Int) (k : Nat) : fx n (k + 1) = fx n k ++ [by8 n (7 - (k : Int))] := by
  unfold fx
  rw [List.range_succ, List.map_append]; rfl
theorem fx_len (n : Int) (k : Nat) : (fx n k).length = k := by simp [fx]
def upto (n : Int) (k : Nat) : Int := n / 2 ^ (64 - 8 * k)
theorem or_256 {x c : Int} (h0 : 0 ≤ x) (h1 : x * 256 < 9223372036854775808) (h2 : 0 ≤ c) (h3 : c < 256) : Go.bits .or .i64 (IntKind.i64.wrap (x * 256)) (IntKind.i64.wrap c) = x * 256 + c := by
  have e1 : IntKind.i64.wrap (x * 256) = x * 256 := w64 (by omega) (by omega)
  have e2 : IntKind.i64.wrap c = c := w64 (by omega) (by omega)
  rw [e1, e2]
  obtain ⟨a, rfl⟩ : ∃ a : Nat, x = a := ⟨x.toNat, by omega⟩
  obtain ⟨b, rfl⟩ : ∃ b : Nat, c = b := ⟨c.toNat, by omega⟩
  have e : Go.bits .or .i64 ((a : Int) * 256) (b : Int) = IntKind.i64.wrap (((BitVec.ofInt 64 ((a : Int) * 256)) ||| (BitVec.ofInt 64 (b : Int))).toNat : Int) := rfl
  have hm : ((a : Int) * 256) = ((a * 256 : Nat) : Int) := by omega
  rw [e, hm, BitVec.ofInt_natCast, BitVec.ofInt_natCast, BitVec.toNat_or, BitVec.toNat_ofNat, BitVec.toNat_ofNat, Nat.mod_eq_of_lt (by omega), Nat.mod_eq_of_lt (by omega)]
  have hs : a * 256 ||| b = a * 256 + b := by
    have := Nat.shiftLeft_add_eq_or_of_lt (i := 8) (b := b) (by omega) a
    rw [Nat.shiftLeft_eq] at this
    exact this.symm
  rw [hs, Go.IntKind.wrap_i64]
  omega
theorem upto_nonneg {n : Int} (h : 0 ≤ n) (k : Nat) : 0 ≤ upto n k := Int.ediv_nonneg h (Int.le_of_lt (Int.pow_pos (by decide)))
theorem upto_succ {n : Int} {k : Nat} (hk : k < 8) : upto n (k + 1) = upto n k * 256 + by8 n (7 - (k : Int)) := by
  unfold upto by8
  have e1 : (8 * (7 - (k : Int))).toNat = 64 - 8 * (k + 1) := by omega
  have e2 : 64 - 8 * k = (64 - 8 * (k + 1)) + 8 := by omega
  rw [e1, e2, Int.pow_add, ← Int.ediv_ediv_of_nonneg (Int.le_of_lt (Int.pow_pos (by decide)))]
  have := Int.mul_ediv_add_emod (n / 2 ^ (64 - 8 * (k + 1))) 256
  show _ = n / 2 ^ (64 - 8 * (k + 1)) / 256 * 256 + _
  omega
theorem upto_le {n : Int} (h : 0 ≤ n) (k : Nat) : upto n k ≤ n := Int.ediv_le_self _ h
theorem by8_range (n s : Int) : 0 ≤ by8 n s ∧ by8 n s < 256 := by unfold by8; omega

theorem fx_get {n : Int} {k : Nat} (h : k < 8) : (fx n 8).getD k 0 = by8 n (7 - (k : Int)) := by
  unfold fx
  simp [List.getD, h]
/-- Entries that rise. -/
def okE : Int → Int → List (Int × Int) → Bool
  | _, _, [] => true
  | a, b, x :: r => if x.1 ≤ a ∨ x.2 ≤ b then false else okE x.1 x.2 r
def encE (l : List (Int × Int)) : List Int := l.flatMap fun x => fx x.1 8 ++ fx x.2 8
theorem encE_len (l : List (Int × Int)) : (encE l).length = 16 * l.length := by
  unfold encE
  induction l with
  | nil => rfl
  | cons x r ih => rw [List.flatMap_cons, List.length_append, ih, List.length_append, fx_len, fx_len, List.length_cons]; omega
theorem encE_snoc (l : List (Int × Int)) (x : Int × Int) : encE (l ++ [x]) = encE l ++ fx x.1 8 ++ fx x.2 8 := by
  unfold encE
  rw [List.flatMap_append]
  simp
theorem encE_cons (x : Int × Int) (l : List (Int × Int)) : encE (x :: l) = fx x.1 8 ++ (fx x.2 8 ++ encE l) := by
  unfold encE
  rw [List.flatMap_cons, List.append_assoc]
theorem take_succ' {α : Type} (z : α) (l : List α) {i : Nat} (h : i < l.length) : l.take (i + 1) = l.take i ++ [l.getD i z] := by
  rw [List.take_succ_eq_append_getElem h]
  simp [List.getD, h]
theorem drop_cons' {α : Type} (z : α) (l : List α) {i : Nat} (h : i < l.length) : l.drop i = l.getD i z :: l.drop (i + 1) := by
  rw [List.drop_eq_getElem_cons h]
  simp [List.getD, h]
/-- Entries as cells. -/
def el (l : List (Int × Int)) : List HV := l.flatMap fun x => [.lit (.int .i64 x.1), .lit (.int .i64 x.2)]
theorem el_len (l : List (Int × Int)) : (el l).length = 2 * l.length := by
  unfold el
  induction l with
  | nil => rfl
  | cons x r ih => simp only [List.flatMap_cons, List.length_append, ih, List.length_cons, List.length_nil]; omega
theorem el_idx : ∀ (l : List (Int × Int)) (i : Nat), i < l.length → ((el l).drop (i * 2)).take 2 = [.lit (.int .i64 (l.getD i (0, 0)).1), .lit (.int .i64 (l.getD i (0, 0)).2)]
  | x :: l, 0, _ => rfl
  | x :: l, i + 1, h => by
    have := el_idx l i (by simpa using h)
    rw [show el (x :: l) = .lit (.int .i64 x.1) :: .lit (.int .i64 x.2) :: el l from rfl, show (i + 1) * 2 = i * 2 + 1 + 1 by omega]
    simpa using this
theorem bl_idx (l : List Int) (i : Nat) (h : i < l.length) : ((bl l).drop i).take 1 = [.lit (.int .u8 (l.getD i 0))] := by
  have h' : i < (bl l).length := by simpa [bl] using h
  rw [List.drop_eq_getElem_cons h']
  simp [bl, List.getD, h]
theorem bl_app (a b : List Int) : bl (a ++ b) = bl a ++ bl b := by simp [bl]
theorem el_app (a b : List (Int × Int)) : el (a ++ b) = el a ++ el b := by simp [el]
end Go.Proofs.Ytpibjdkenifggaa.OW
