/- Nothing knows nobody. -/
import Derived.Test.YtpibjdkenifggaaQI
namespace Go.Proofs.Ytpibjdkenifggaa.QU
open Go.RowKit Go.Maps Go.Sort Go.Shelf Go.Proofs.YtpibjdkenifggaaW.PrintWords Go.Proofs.YtpibjdkenifggaaW.PrintLast Go.Proofs.YtpibjdkenifggaaW.PrintMore
set_option linter.unusedVariables false
set_option linter.unusedSimpArgs false
set_option maxRecDepth 100000
attribute [local go_sem] Oper.semAt_some

set_option maxHeartbeats 2000000 in
theorem cl_nil_stops (n : Nat) (hn : 7 ≤ n) (Bq n₀ B : Nat) (w : World) (hBq : w.cell? ⟨Bq, 0, none⟩ = some (.pointer none)) :
    SeqStopsK Fence.wide n Try.prog 79 #[.pointer (some ⟨Bq, 0, none⟩)] (fun x : List UInt8 => #[encStr x]) (Kq n₀ B) (fun xs => xs = []) (fun _ => False) 0 w := fun l J Jx W hW hJ _ hY h0 => by
  have e1 := (hW.cell (p := ⟨Bq, 0, none⟩) (World.block_lt_of_cell? _ _ hBq)).trans hBq
  refine callsIn_of_wp Try.func79 rfl trivial ?_ rfl
  simp only [Try.ntmps79, List.size_toArray, List.length_cons, List.length_nil, Nat.reduceAdd, Nat.reduceSub, Array.replicate_succ, Array.replicate_zero, List.push_toArray, List.append_toArray, List.nil_append, List.cons_append]
  gi_wp2_with fail
  refine bodyPost_ret (results_none rfl _ _ _) rfl ?_
  exact ⟨⟨_, rfl⟩, h0⟩
set_option maxHeartbeats 4000000 in
theorem walk_nil_in (n : Nat) (hn : 9 ≤ n) {w : World} :
    CallsIn Fence.wide n Try.prog 47 #[.pointer none, .int .i64 5] w fun e w' => ∃ c, e = .returned (.slice none 0 c) ∧ Below w.heap.size w w' := by
  have hf : Fence.wide.fn 68 := trivial
  refine callsIn_of_wp_marks Try.func47 rfl trivial ?_ rfl
  simp only [Try.ntmps47, List.size_toArray, List.length_cons, List.length_nil, Nat.reduceAdd, Nat.reduceSub, Array.replicate_succ, Array.replicate_zero, List.push_toArray, List.append_toArray, List.nil_append, List.cons_append]
  gi_wp2_with fail
  refine ⟨fun _ => by omega, ?_⟩
  refine (clients_in _ _ _).mono ?_
  rintro e w1 ⟨rfl, rfl⟩
  have hcmp := cmp_nil
  gi_wp2_with fail
  obtain ⟨W0, hW0⟩ : ∃ W0, (((w.alloc (Obj.cells #[Value.int IntKind.i64 5] 3)).alloc (Obj.cells #[Value.slice none 0 0] 87)).alloc (Obj.cells #[Value.pointer none] 49)) = W0 := ⟨_, rfl⟩
  have bL : Boxed W0 (w.heap.size + 1) 87 (.slice none 0 0) := by
    have := Boxed.new (w.alloc (Obj.cells #[Value.int IntKind.i64 5] 3)) 87 (.slice none 0 0)
    rw [size_alloc] at this
    rw [← hW0]
    exact this.alloc _
  have bQ : Boxed W0 (w.heap.size + 1 + 1) 49 (.pointer none) := by
    have := Boxed.new ((w.alloc (Obj.cells #[Value.int IntKind.i64 5] 3)).alloc (Obj.cells #[Value.slice none 0 0] 87)) 49 (.pointer none)
    rw [size_alloc, size_alloc] at this
    rw [← hW0]
    exact this
  have hB0 : Below w.heap.size w W0 := by rw [← hW0]; exact below_alloc (below_alloc (below_alloc (Below.refl _ _) _) _) _
  have hsz : W0.heap.size = w.heap.size + 3 := by rw [← hW0, size_alloc, size_alloc, size_alloc]
  rw [hW0]
  clear hW0
  refine wpIn_rangeFunc_ownG rfl (by omega) (gf := 79) (lb := #[.pointer (some ⟨w.heap.size + 1 + 1, 0, none⟩)]) rfl trivial (enters_of Try.func79 (by kernel_rfl) rfl)
    (cl_nil_stops (n - 1) (by omega) (w.heap.size + 1 + 1) w.heap.size (w.heap.size + 1) W0 bQ.cell) Kq.trans (Kq.putObj (by omega) (by omega)) (Below.refl _ _) (fun _ => rfl)
    (fun pre W => Boxed W (w.heap.size + 1) 87 (.slice none 0 0) ∧ Below w.heap.size w W)
    (fun c pre W => False)
    (OwnFrom.and (Own.from (boxed_own _ _ _) _) (ownFrom_below (Nat.le_refl _) (by omega)))
    (fun c s X Y row hs hg hr => hs)
    ⟨bL, hB0⟩
    (fun x => { tmps := #[.pointer none, .int .i64 5, undef, .pointer (some ⟨w.heap.size, 0, none⟩), .slice none 0 0, .pointer (some ⟨w.heap.size + 1, 0, none⟩), .func (.func 79) #[] #[.pointer (some ⟨w.heap.size + 1 + 1, 0, none⟩)], encStr x, .pointer none, .func (.func 79) #[] #[.pointer (some ⟨w.heap.size + 1 + 1, 0, none⟩)], .func (.func 79) #[] #[.pointer (some ⟨w.heap.size + 1 + 1, 0, none⟩)], .bool false, .func (.func 79) #[] #[.pointer (some ⟨w.heap.size + 1 + 1, 0, none⟩)], encStr x, undef, undef, undef, undef, undef, undef, undef, undef, undef], defers := [] }) ?assign ?body ?done ?stop
  case assign =>
    intro l x W K hK
    gi_wp2
    exact hK
  case body =>
    rintro l pre x W _ hlt
    exact absurd hlt (Nat.not_lt_zero _)
  case done =>
    rintro Dd ys W hD rfl ⟨hv, hB⟩ hK
    have hc := hv.cell
    gi_wp2_with fail
    refine ⟨by simp, .inl ⟨_, _, rfl, run_takeDeferred hK, ?_⟩⟩
    exact ⟨_, results_tmp rfl _ _ _, 0, rfl, hB.trans (belowK_b (w := w) (Nat.le_refl _) W Dd _ _ (by omega) hK rfl rfl)⟩
  case stop =>
    rintro Dd c pre W hD hpre h _
    exact h.elim
theorem walk_nil {w : World} : Calls Try.prog 47 #[.pointer none, .int .i64 5] w fun e w' => ∃ c, e = .returned (.slice none 0 c) ∧ Below w.heap.size w w' := callsIn_wide.1 (walk_nil_in 9 (by decide))
end Go.Proofs.Ytpibjdkenifggaa.QU
