/- ProducerOnce: its numbers, and its rows. -/
import Derived.Test.YtmdgkjjdcfpjiaaPO
namespace Go.Proofs.Ytmdgkjjdcfpjiaa.PT
open Go.RowKit Go.Proofs.YtmdgkjjdcfpjiaaW.PrintWords Go.Proofs.YtmdgkjjdcfpjiaaW.PrintLast Go.Proofs.YtmdgkjjdcfpjiaaW.PrintMore Go.Proofs.Ytmdgkjjdcfpjiaa.PProducerOnce
set_option linter.unusedVariables false
set_option linter.unusedSimpArgs false
set_option maxRecDepth 100000

/-- A number, rounded into 0 .. m-1. -/
def rnd (a m : Int) : Int := if Int.tmod a m < 0 then Int.tmod a m + m else Int.tmod a m
theorem rnd_range (a : Int) {m : Int} (hm : 0 < m) : 0 ≤ rnd a m ∧ rnd a m < m := by
  have h1 : Int.tmod a m < m := Int.tmod_lt_of_pos a hm
  have h2 : -m < Int.tmod a m := by
    have := Int.tmod_lt_of_pos (-a) hm
    rw [Int.neg_tmod] at this
    omega
  unfold rnd
  split <;> omega
theorem round_calls (a m : Int) (w : World) (hm : 0 < m) (hm2 : m ≤ 1000) :
    Calls Try.prog 11 #[.int .i64 a, .int .i64 m] w fun e w' => e = .returned (.int .i64 (rnd a m)) ∧ Drawn0 w w' := by
  refine cordwainalike_Round.calls a m (rnd a m) w ?_
  unfold cordwainalike_Round.f rnd
  have h1 : Int.tmod a m < m := Int.tmod_lt_of_pos a hm
  have h2 : -m < Int.tmod a m := by
    have := Int.tmod_lt_of_pos (-a) hm
    rw [Int.neg_tmod] at this
    omega
  rw [if_neg (by omega)]
  split
  · have : wrap64 (Int.tmod a m + m) = Int.tmod a m + m := by unfold wrap64; omega
    rw [this]
  · rfl
theorem info55 : (Try.prog.info? 55).map (fun i => (i.zero, i.size, i.bytes)) = some (some (.agg #[.int .i64 0, .int .i64 0, .bool false, .slice none 0 0, .bool false, .slice none 0 0]), 6, 80) := by kernel_rfl
/-- make([]Record, n). -/
theorem make_rec (n : Nat) (hn : n ≤ 1000) : ∃ MC : Array Value, ∀ W : World, (Instr.makeSlice 26 (.int .i64 (n : Int)) (.int .i64 (n : Int))).run Try.prog W = .ok (.slice (some ⟨W.heap.size, 0, none⟩) n n) (W.alloc (.cells MC 55)) := by
  obtain ⟨i0, hi, hzz⟩ := Option.map_eq_some_iff.1 info55
  simp only [Prod.mk.injEq] at hzz
  obtain ⟨hz0, hz1, hz2⟩ := hzz
  refine ⟨madeCells (Value.agg #[.int .i64 0, .int .i64 0, .bool false, .slice none 0 0, .bool false, .slice none 0 0]).cells (n * 6), fun W => ?_⟩
  have hr := run_make (P := Try.prog) W 26 55 i0 _ Try.underlying26 hi hz0 .i64 .i64 (n : Int) (n : Int) (by omega) (by omega) (by rw [hz2]; omega) (by omega)
  simp only [Int.toNat_natCast] at hr
  rw [hz1] at hr
  exact hr

def nN (l : List Int) (i : Nat) : Int := 1 + rnd (l.getD i 0) 9
def SN (l : List Int) : Nat → Int
  | 0 => 0
  | i + 1 => SN l i + nN l i
theorem run_of (l : List Int) (h : l.length ≤ 20) : Run l.length (SN l) (nN l) :=
  ⟨rfl, fun i _ => rfl, fun i _ => by have := rnd_range (l.getD i 0) (m := 9) (by decide); unfold nN; omega, h⟩
/-- A batch of the law's, as its cells stand. -/
def RB (x : Int × Int) (cs : List Value) : Prop := ∃ (A : Option Addr) (k c : Nat), (k : Int) = x.2 ∧ cs = [.int .i64 0, .int .i64 0, .int .i64 3, .int .i64 2, .int .i64 x.1, .slice A k c]
def bs (l : List Int) (j : Nat) : List (Int × Int) := (List.range j).map fun i => (SN l i, nN l i)
theorem bs_len (l : List Int) (j : Nat) : (bs l j).length = j := by simp [bs]
theorem bs_succ (l : List Int) (j : Nat) : bs l (j + 1) = bs l j ++ [(SN l j, nN l j)] := by simp [bs, List.range_succ]
theorem bs_get (l : List Int) {i j : Nat} (h : i < j) : (bs l j)[i]? = some (SN l i, nN l i) := by simp [bs, h]
end Go.Proofs.Ytmdgkjjdcfpjiaa.PT
