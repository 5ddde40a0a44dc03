/- What clients may use, behind a pointer: what its methods do, told by its datum. -/
import Derived.Test.YtpibjdkenifggaaWMore
import Derived.Test.YtpibjdkenifggaaProg
import Derived.Maps.OwnSet
import Derived.Maps.OwnOps
import Derived.WalkSpells
import Derived.Carry
import Derived.RegionTactic
import Derived.Deep.QuietTactic
import Derived.BigQuiet
import Derived.ChangeAlike
import Derived.StringKeys
import Derived.StillTailTactics
import Derived.LoopTactic
import Derived.Deep.RegionHeld3
import Derived.Lib.SlMapFilter
import Derived.Maps.Ext
import Derived.Maps.RangeWalk
import Derived.Laws.IdiomRangeMap
import Derived.Deep.LoopGhost
namespace Go.Proofs.Ytpibjdkenifggaa.QU
open Go.RowKit Go.Maps Go.MapKept Go.ChangeMaps Go.WideElems Go.WideMaps Go.WideShapes Go.Proofs.YtpibjdkenifggaaW.PrintWords Go.Proofs.YtpibjdkenifggaaW.PrintLast Go.Proofs.YtpibjdkenifggaaW.PrintMore
set_option linter.unusedVariables false
set_option linter.unusedSimpArgs false
set_option maxRecDepth 100000
attribute [local go_sem] max2_int min2_int max_two min_two

/-- What is used, and not gained again. -/
def usedF (rate now u a : Int) : Int := if 0 < rate ∧ now - a ≥ Int.tdiv (u + rate - 1) rate then 0 else u - rate * (now - a)
/-- The numbers that may stand in an entry. -/
def inQ (u a : Int) : Prop := 0 ≤ u ∧ u ≤ 4398046511104 ∧ 0 ≤ a ∧ a ≤ 1125899906842624
instance (u a : Int) : Decidable (inQ u a) := by unfold inQ; infer_instance
/-- The block. -/
def QBlk (w : World) (g b : Nat) (rate burst most now : Int) : Prop := w.heap[g]? = some (.cells #[.int .i64 rate, .int .i64 burst, .int .i64 most, .int .i64 now, .map (some b)] 100 (0, 0))
theorem size_alloc (w : World) (o : Obj) : (w.alloc o).heap.size = w.heap.size + 1 := by unfold World.alloc; exact Array.size_push ..
theorem blk_new (w : World) (o : Obj) : (w.alloc o).heap[w.heap.size]? = some o := by unfold World.alloc; exact Array.getElem?_push_size
theorem mul_in (r t : Int) (h0 : 0 ≤ r) (h1 : r ≤ 1000) (h2 : -1125899906842624 ≤ t) (h3 : t ≤ 1125899906842624) : -1125899906842624000 ≤ r * t ∧ r * t ≤ 1125899906842624000 := by
  have a1 : r * t ≤ r * 1125899906842624 := Int.mul_le_mul_of_nonneg_left h3 h0
  have a2 : r * -1125899906842624 ≤ r * t := Int.mul_le_mul_of_nonneg_left h2 h0
  omega
set_option maxHeartbeats 4000000 in
theorem used_calls {w : World} {g b : Nat} {rate burst most now : Int} (hg : QBlk w g b rate burst most now) (u a : Int) (hq : inQ u a) (hr0 : 0 ≤ rate) (hr1 : rate ≤ 1000) (hn0 : 0 ≤ now) (hn1 : now ≤ 1125899906842624) :
    Calls Try.prog 52 #[.pointer (some ⟨g, 0, none⟩), .agg #[.int .i64 u, .int .i64 a]] w fun e w' => e = .returned (.int .i64 (usedF rate now u a)) ∧ Below w.heap.size w w' := by
  obtain ⟨q1, q2, q3, q4⟩ := hq
  have hlt := blk_lt hg
  have hmul : IntKind.i64.wrap (rate * (now - a)) = rate * (now - a) := IntWalk.i64_in _ (by have := mul_in rate (now - a) hr0 hr1 (by omega) (by omega); omega)
  have hmr := mul_in rate (now - a) hr0 hr1 (by omega) (by omega)
  have hsub : IntKind.i64.wrap (now - a) = now - a := IntWalk.i64_in _ (by omega)
  go_enter Try.func52, Try.ntmps52
  go_wp2_with fail
  generalize hW : w.alloc (Obj.cells #[Value.int IntKind.i64 u, Value.int IntKind.i64 a] 103) = W
  have bq : W.heap[w.heap.size]? = some (Obj.cells #[Value.int IntKind.i64 u, Value.int IntKind.i64 a] 103) := by rw [← hW]; exact blk_new _ _
  have bg := (Below.heap_alloc w (Obj.cells #[Value.int IntKind.i64 u, Value.int IntKind.i64 a] 103) g hlt).trans hg
  have HB : Aside0 (Below w.heap.size w W) := ⟨by rw [← hW]; exact below_alloc (Below.refl _ _) _⟩
  rw [hW] at bg
  clear hW
  have x0 := (blk_cell bg 0).trans rfl
  have x3 := (blk_cell bg 3).trans rfl
  have y0 := (blk_cell bq 0).trans rfl
  have y1 := (blk_cell bq 1).trans rfl
  clear bq bg hlt
  by_cases hr : 0 < rate
  · have hs1 : IntKind.i64.wrap (u + rate) = u + rate := IntWalk.i64_in _ (by omega)
    have hs2 : IntKind.i64.wrap (u + rate - 1) = u + rate - 1 := IntWalk.i64_in _ (by omega)
    have hq0 : 0 ≤ Int.tdiv (u + rate - 1) rate ∧ Int.tdiv (u + rate - 1) rate ≤ u + rate - 1 := ⟨Int.tdiv_nonneg (by omega) (by omega), by rw [Int.tdiv_eq_ediv_of_nonneg (by omega)]; exact Int.ediv_le_self _ (by omega)⟩
    go_region
    go_wp2_with fail
    go_region
    go_wp2_with fail
    · have hu : usedF rate now u a = 0 := by unfold usedF; rw [if_pos ⟨hr, by assumption⟩]
      go_ret
      exact ⟨by rw [hu]; rfl, below_drew (below_drew HB.out)⟩
    · have hu : usedF rate now u a = u - rate * (now - a) := by unfold usedF; rw [if_neg (by rintro ⟨_, h⟩; omega)]
      have hw2 : wrap64 (u - rate * (now - a)) = u - rate * (now - a) := by unfold wrap64; omega
      go_region
      go_wp2_with fail
      go_ret
      exact ⟨by rw [hu]; rfl, below_drew (below_drew (below_drew HB.out))⟩
  · obtain rfl : rate = 0 := by omega
    have hu : usedF 0 now u a = u := by unfold usedF; rw [if_neg (by rintro ⟨h, _⟩; exact hr h)]; omega
    clear hmul hmr
    go_region
    go_wp2_with fail
    go_region
    go_wp2_with fail
    go_region
    go_wp2_with fail
    go_ret
    exact ⟨by rw [hu]; rfl, below_drew (below_drew (below_drew HB.out))⟩
end Go.Proofs.Ytpibjdkenifggaa.QU
