/- New, Next, and what the document fixes. -/
import Derived.Test.YtmdgkjjdcfpjiaaPA
namespace Go.Proofs.Ytmdgkjjdcfpjiaa.PT
open Go.RowKit Go.Maps Go.MapKept Go.ChangeMaps Go.WideElems Go.WideMaps Go.WideShapes Go.Proofs.YtmdgkjjdcfpjiaaW.PrintWords Go.Proofs.YtmdgkjjdcfpjiaaW.PrintLast Go.Proofs.YtmdgkjjdcfpjiaaW.PrintMore Go.Proofs.Ytmdgkjjdcfpjiaa.PProducerOnce
set_option linter.unusedVariables false
set_option linter.unusedSimpArgs false
set_option maxRecDepth 100000

def none_ : Tab := fun _ => none
theorem new_pt {w0 w : World} (hB : Below w0.heap.size w0 w) :
    Calls Try.prog 12 #[] w fun e w' => ∃ g b, e = .returned (.pointer (some ⟨g, 0, none⟩)) ∧ IsPT w0 w' g b 0 none_ ∧ Below w0.heap.size w0 w' ∧ Below w.heap.size w w' ∧ w.heap.size ≤ b ∧ w.heap.size ≤ g := by
  have hmm := @run_makeMap Try.prog
  go_enter Try.func12, Try.ntmps12
  go_wp2
  go_ret
  refine ⟨w.heap.size + 1, w.heap.size, rfl, ?_, hB.trans ((below_alloc (below_alloc (Below.refl _ _) _) _).mono hB.size), by (repeat (first | exact Below.refl _ _ | assumption | refine below_drew ?_ | refine below_alloc ?_ _ | refine pw_below_drewN ?_ _)), Nat.le_refl _, Nat.le_succ _⟩
  have hb : (w.alloc (.map #[] 0)).heap[w.heap.size]? = some (.map #[] 0) := blk_new _ _
  have hg := blk_new (w.alloc (.map #[] 0)) (.cells #[.map (some w.heap.size)] 90 (0, 0))
  rw [size_alloc] at hg
  have hown := World.ownsMap_made (H := Value) w Try.prog 3 held
  refine ⟨hg, Nat.le_trans hB.size (Nat.le_succ _), hB.size, .map [], ownsB hown (below_alloc (Below.refl _ _) _), fun k hk => rfl⟩
/-- The epoch, and the next number. -/
def nextT (f : Tab) (p : Int) : Int × Int × Bool := match f p with | none => (0, 0, false) | some o => (o.ep, nextO o, true)
set_option maxHeartbeats 4000000 in
theorem next_pt {w0 w : World} {g b : Nat} {N : Nat} {f : Tab} (h : IsPT w0 w g b N f) (p : Int) (hp : (Lit.int .i64 p).wf = true) {r : Int × Int × Bool} (hr : nextT f p = r) :
    Calls Try.prog 15 #[.pointer (some ⟨g, 0, none⟩), .int .i64 p] w fun e w' => e = .returned (.tuple #[.int .i64 r.1, .int .i64 r.2.1, .bool r.2.2]) ∧ Below w.heap.size w w' := by
  have HI := Aside0.mk h
  clear h
  have cg : w.cell? ⟨g, 0, none⟩ = some (.map (some b)) := (blk_cell HI.out.1 0).trans rfl
  unfold nextT at hr
  rcases hf : f p with _ | o
  · rw [hf] at hr
    subst hr
    have hl := look_none HI.out hp hf
    change (Instr.lookup 88 (.map (some b)) (.int .i64 p) true).run Try.prog w = .ok (.tuple #[.agg #[.int .i64 0, .slice none 0 0], .bool false]) w at hl
    go_enter Try.func15, Try.ntmps15
    go_wp2_with fail
    go_ret3
    exact ⟨rfl, by (repeat (first | exact Below.refl _ _ | assumption | refine below_drew ?_ | refine below_alloc ?_ _ | refine pw_below_drewN ?_ _))⟩
  · rw [hf] at hr
    obtain ⟨A1, c1, hl0, hne, hlen, hc1, hF⟩ := look_some HI.out hp hf
    have hl := hl0 w (by (repeat (first | exact Below.refl _ _ | assumption | refine below_drew ?_ | refine below_alloc ?_ _ | refine pw_below_drewN ?_ _)))
    go_enter Try.func15, Try.ntmps15
    go_wp2_with fail
    clear hl hl0 cg
    generalize hW : w.alloc (Obj.cells #[Value.int IntKind.i64 o.ep, Value.slice A1 o.l.length c1] 93) = W2
    have b1 : W2.heap[w.heap.size]? = some (Obj.cells #[Value.int IntKind.i64 o.ep, Value.slice A1 o.l.length c1] 93) := by rw [← hW]; exact blk_new _ _
    have HB2 : Aside0 (Below w.heap.size w W2) := ⟨by rw [← hW]; (repeat (first | exact Below.refl _ _ | assumption | refine below_drew ?_ | refine below_alloc ?_ _ | refine pw_below_drewN ?_ _))⟩
    clear hW
    have m0 : W2.cell? ⟨w.heap.size, 0, none⟩ = some (.int .i64 o.ep) := (blk_cell b1 0).trans rfl
    have m1 : W2.cell? ⟨w.heap.size, 1, none⟩ = some (.slice A1 o.l.length c1) := (blk_cell b1 1).trans rfl
    obtain ⟨nx, hnx⟩ : ∃ x, nextO o = x := ⟨_, rfl⟩
    have HF := Aside0.mk hF
    clear hF
    have hcall := fun (w' : World) (hw' : Below w.heap.size w w') => next_calls o.ep A1 c1 o.l w' (Kd.F_now (Kd.F_below HF.out hw')) hc1 hne hlen
    rw [show nextO ⟨o.ep, o.l⟩ = nx from hnx] at hcall
    have hBd := below_drew HB2.out
    go_region_held3 (fun w' => w'.cell? ⟨w.heap.size, 0, none⟩ = some (.int .i64 o.ep) ∧ w'.cell? ⟨w.heap.size, 1, none⟩ = some (.slice A1 o.l.length c1))
      (first | exact ⟨m0, m1⟩ | exact ⟨(hw1.cell (p := ⟨w.heap.size, 0, none⟩) (blk_lt b1)).trans m0, (hw1.cell (p := ⟨w.heap.size, 1, none⟩) (blk_lt b1)).trans m1⟩)
      (first | (go_at_call 36; refine (hcall _ hBd).mono ?_; rintro e1 w1 ⟨rfl, hw1⟩))
    all_goals
      have hB3 := Aside0.mk ((below_drew HB2.out).trans (hw1.mono HB2.out.size))
      clear hw1 hcall hBd
      go_wp2_with fail
      go_ret3
      subst hr
      rw [← hnx]
      exact ⟨rfl, hB3.out⟩
end Go.Proofs.Ytmdgkjjdcfpjiaa.PT
