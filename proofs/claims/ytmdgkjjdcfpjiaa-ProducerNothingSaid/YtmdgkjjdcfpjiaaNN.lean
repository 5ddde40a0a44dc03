/- Nothing knows no producers: what a nil table answers. -/
import Derived.Test.YtmdgkjjdcfpjiaaPW
import Derived.Test.YtmdgkjjdcfpjiaaPPutx1
import Derived.Laws.BytesArg
namespace Go.Proofs.Ytmdgkjjdcfpjiaa.PT
open Go.RowKit Go.Maps Go.MapKept Go.ChangeMaps Go.WideElems Go.WideMaps Go.WideShapes Go.Proofs.YtmdgkjjdcfpjiaaW.PrintWords Go.Proofs.YtmdgkjjdcfpjiaaW.PrintLast Go.Proofs.YtmdgkjjdcfpjiaaW.PrintMore
set_option linter.unusedVariables false
set_option linter.unusedSimpArgs false
set_option maxRecDepth 100000

theorem next_nil {w : World} (p : Int) : Calls Try.prog 15 #[.pointer none, .int .i64 p] w fun e w' => e = .returned (.tuple #[.int .i64 0, .int .i64 0, .bool false]) ∧ w' = w := by
  go_enter Try.func15, Try.ntmps15
  go_wp2_with fail
  go_ret3
  exact ⟨rfl, rfl⟩
theorem known_nil {w : World} : Calls Try.prog 27 #[.pointer none] w fun e w' => e = .returned (.slice none 0 0) ∧ w' = w := by
  go_enter Try.func27, Try.ntmps27
  go_wp2_with fail
  go_ret
  exact ⟨rfl, rfl⟩
theorem copy_nil {w : World} : Calls Try.prog 28 #[.pointer none] w fun e w' => e = .returned (.pointer none) ∧ w' = w := by
  go_enter Try.func28, Try.ntmps28
  go_wp2_with fail
  go_ret
  exact ⟨rfl, rfl⟩
theorem same_nil {w : World} : Calls Try.prog 29 #[.pointer none, .pointer none] w fun e w' => e = .returned (.bool true) ∧ w' = w := by
  go_enter Try.func29, Try.ntmps29
  go_wp2_with fail
  go_ret
  exact ⟨rfl, rfl⟩
/-- What a nil table says of a batch. -/
def saysN (p seq : Int) : Int := if p ≤ 0 then 0 else if seq ≠ 0 then 10 else 0
set_option maxHeartbeats 1000000 in
theorem check_nil {w : World} (base last p ep seq : Int) (A : Option Addr) (n c : Nat) :
    Calls Try.prog 13 #[.pointer none, .agg #[.int .i64 base, .int .i64 last, .int .i64 p, .int .i64 ep, .int .i64 seq, .slice A n c]] w fun e w' => e = .returned (.tuple #[.int .i64 0, .bool false, .int .i64 (saysN p seq)]) ∧ Below w.heap.size w w' := by
  unfold saysN
  by_cases h1 : p ≤ 0
  · rw [if_pos h1]
    go_enter Try.func13, Try.ntmps13
    go_wp2_with fail
    go_ret3
    exact ⟨rfl, below_alloc (Below.refl _ _) _⟩
  · rw [if_neg h1]
    by_cases h2 : seq = 0
    · subst h2
      go_enter Try.func13, Try.ntmps13
      go_wp2_with fail
      go_ret3
      exact ⟨rfl, by (repeat (first | exact Below.refl _ _ | assumption | refine below_drew ?_ | refine below_alloc ?_ _ | refine pw_below_drewN ?_ _))⟩
    · have h2b : (seq == 0) = false := by simpa using h2
      rw [if_pos h2]
      go_enter Try.func13, Try.ntmps13
      go_wp2_with fail
      go_ret3
      exact ⟨rfl, by (repeat (first | exact Below.refl _ _ | assumption | refine below_drew ?_ | refine below_alloc ?_ _ | refine pw_below_drewN ?_ _))⟩
theorem add_nil {w : World} (base last p ep seq : Int) (A : Option Addr) (n c : Nat) :
    Calls Try.prog 14 #[.pointer none, .agg #[.int .i64 base, .int .i64 last, .int .i64 p, .int .i64 ep, .int .i64 seq, .slice A n c]] w fun e w' => e = .returned (.int .i64 (if p ≤ 0 then 0 else 10)) ∧ Below w.heap.size w w' := by
  by_cases h1 : p ≤ 0
  · rw [if_pos h1]
    go_enter Try.func14, Try.ntmps14
    go_wp2_with fail
    go_ret
    exact ⟨rfl, by (repeat (first | exact Below.refl _ _ | assumption | refine below_drew ?_ | refine below_alloc ?_ _ | refine pw_below_drewN ?_ _))⟩
  · rw [if_neg h1]
    go_enter Try.func14, Try.ntmps14
    go_wp2_with fail
    go_ret
    exact ⟨rfl, by (repeat (first | exact Below.refl _ _ | assumption | refine below_drew ?_ | refine below_alloc ?_ _ | refine pw_below_drewN ?_ _))⟩
open Go.Proofs.Ytmdgkjjdcfpjiaa.PPut in
theorem put_zero (w : World) : Calls Try.prog 81 #[.int .i64 0] w fun e w' => ∃ A c, e = .returned (.slice A 1 c) ∧ 1 ≤ c ∧ Kd.C (Kd.int .u8) w' A 1 [0] ∧ Below w.heap.size w w' := by
  refine (num_Put.calls 20 0 [0] w (by decide +kernel)).mono ?_
  rintro e w' ⟨v, rfl, hR, hb⟩
  obtain ⟨A, c, rfl, hc, hC⟩ := Kd.R_reads hR
  exact ⟨A, c, rfl, hc, hC, hb⟩
theorem info5 : (Try.prog.info? 5).map (fun i => (i.zero, i.size, i.bytes)) = some (some (.int .u8 0), 1, 1) := by kernel_rfl
/-- What stands in a writer. -/
def Vq (q : Nat) (W : World) : Value := (W.cell? ⟨q, 0, none⟩).getD (.slice none 0 0)
theorem vq_of {q : Nat} {W : World} {v : Value} (h : W.cell? ⟨q, 0, none⟩ = some v) : W.cell? ⟨q, 0, none⟩ = some (Vq q W) := by unfold Vq; rw [h]; rfl
theorem vq_is {q : Nat} {W : World} {v : Value} (h : W.cell? ⟨q, 0, none⟩ = some v) : Vq q W = v := by unfold Vq; rw [h]; rfl
set_option maxHeartbeats 4000000 in
theorem num_calls {w : World} {q : Nat} (hq : w.heap[q]? = some (.cells #[.slice none 0 0, .bool false] 124 (0, 0))) :
    Calls Try.prog 52 #[.pointer (some ⟨q, 0, none⟩), .int .i64 0] w fun e w' => ∃ A c, e = .returned (.pointer (some ⟨q, 0, none⟩)) ∧ 1 ≤ c ∧ w'.heap[q]? = some (.cells #[.slice A 1 c, .bool false] 124 (0, 0)) ∧ Kd.C (Kd.int .u8) w' A 1 [0] ∧ Below q w w' := by
  have HQ := Aside0.mk hq
  have x0 : w.cell? ⟨q, 0, none⟩ = some (.slice none 0 0) := (blk_cell hq 0).trans rfl
  clear hq
  go_enter Try.func52, Try.ntmps52
  go_wp2_with fail
  have hlt := blk_lt HQ.out
  have x0d : w.drew.cell? ⟨q, 0, none⟩ = some (.slice none 0 0) := x0
  have hle : (([] : List Int).length + 1) * 1 ≤ 140737488355328 := by decide
  refine start_ (n := 11) (S := fun w' => w'.cell? ⟨q, 0, none⟩ = some (.slice none 0 0)) (ds := [10]) #[false, false, false, false, false, false, false, false, false, false, false] (by kernel_rfl) rfl rfl x0d (fun hHeld => ?_)
  refine pure_ (i := 0) (N := some 7) (v := ?_) (a' := ?_) #[true, false, false, false, false, false, false, false, false, false, false] rfl rfl (by kernel_rfl) (fun _ _ _ h => h) (Or.inl ⟨by rfl, ?_⟩) ?_ ?_
  rotate_left
  · intro w'
    go_simp
    with_reducible rfl
  rotate_left
  · simp only [Act.put, List.setIfInBounds_toArray, List.set_cons_zero, List.set_cons_succ, i64_w, i32_w]
    rfl
  refine pure_ (i := 1) (N := some 8) (v := ?_) (a' := ?_) #[true, true, false, false, false, false, false, false, false, false, false] rfl rfl (by kernel_rfl) (fun _ _ _ h => h) (Or.inl ⟨by rfl, ?_⟩) ?_ ?_
  rotate_left
  · intro w'
    go_simp
    with_reducible rfl
  rotate_left
  · simp only [Act.put, List.setIfInBounds_toArray, List.set_cons_zero, List.set_cons_succ, i64_w, i32_w]
    rfl
  refine pure_ (i := 2) (N := some 9) (v := ?_) (a' := ?_) #[true, true, true, false, false, false, false, false, false, false, false] rfl rfl (by kernel_rfl) (fun _ _ _ h => h) (Or.inl ⟨by rfl, ?_⟩) ?_ ?_
  rotate_left
  · intro w'
    go_simp
    with_reducible rfl
  rotate_left
  · simp only [Act.put, List.setIfInBounds_toArray, List.set_cons_zero, List.set_cons_succ, i64_w, i32_w]
    rfl
  refine pure_ (i := 3) (N := some 10) (v := ?_) (a' := ?_) #[true, true, true, true, false, false, false, false, false, false, false] rfl rfl (by kernel_rfl) (fun _ _ _ h => h) (Or.inl ⟨by rfl, ?_⟩) ?_ ?_
  rotate_left
  · intro w'
    go_simp
    with_reducible rfl
  rotate_left
  · simp only [Act.put, List.setIfInBounds_toArray, List.set_cons_zero, List.set_cons_succ, i64_w, i32_w]
    rfl
  refine take_ (i := 4) (N := some 11) (v := ?_) (a' := ?_) #[true, true, true, true, true, false, false, false, false, false, false] rfl rfl (by kernel_rfl) (fun _ _ _ h => h) (Or.inl ⟨by rfl, ?_⟩) hHeld ?_ ?_
  rotate_left
  · intro w' s0
    go_simp
    with_reducible rfl
  rotate_left
  · simp only [Act.put, List.setIfInBounds_toArray, List.set_cons_zero, List.set_cons_succ, i64_w, i32_w]
    rfl
  refine pure_ (i := 5) (N := some 12) (v := ?_) (a' := ?_) #[true, true, true, true, true, true, false, false, false, false, false] rfl rfl (by kernel_rfl) (fun _ _ _ h => h) (Or.inl ⟨by rfl, ?_⟩) ?_ ?_
  rotate_left
  · intro w'
    go_simp
    with_reducible rfl
  rotate_left
  · simp only [Act.put, List.setIfInBounds_toArray, List.set_cons_zero, List.set_cons_succ, i64_w, i32_w]
    rfl
  refine one_ (i := 6) (N := some 13) #[true, true, true, true, true, true, true, false, false, false, false] rfl rfl (by kernel_rfl) (by decide) (fun K hK => ?_)
  refine goes_ Try.func81 (by kernel_rfl) rfl #[.int .i64 0] (by rfl) rfl rfl (by (try simp only [List.map_toArray, List.map_cons, List.map_nil]); first | done | rfl) ?_
  refine (put_zero _).mono ?_
  rintro e1 w1 ⟨A1, c1, rfl, hc1, hC1, hb1⟩
  refine ⟨_, rfl, ?_⟩
  refine hK.out _ _ ((hb1.cell (p := ⟨q, 0, none⟩) hlt).trans x0) (fun hHeld1 => ?_)
  clear hK K
  refine one_ (i := 7) (N := some 14) #[true, true, true, true, true, true, true, true, false, false, false] rfl rfl (by kernel_rfl) (by decide) (fun K hK => ?_)
  refine Kd.R_append_rows_step (Kd.int .u8) (Rr := (Kd.int .u8).K w1) (w0 := w.drew) w.heap.size (by rfl) (.tmp 11) (.tmp 13) 48 5 (.int .u8 0) 1 rfl Try.underlying48 info5 rfl (by decide) (by decide) (.slice none 0 0) [] [0] A1 1 c1 (fun _ => True) (fun _ => False) (by rfl) (by rfl) (Kd.R_nil _ _ _ _ _) hC1 (fun x cs h => h) (fun _ h => h.elim) (fun _ _ => trivial) hb1 hb1.size hle ?_
  intro v4 w4 hR4 hB4 hg4 hat4
  obtain ⟨A4, c4, rfl, hc4, hC4⟩ := Kd.R_reads hR4
  have b4 := (hB4.block q hlt).trans HQ.out
  have m4 : w4.cell? ⟨q, 0, none⟩ = some (.slice none 0 0) := (blk_cell b4 0).trans rfl
  have f4 : w4.frozen? ⟨q, 0, none⟩ = false := blk_frozen b4 0
  refine hK.out _ _ m4 (fun hHeld4 => ?_)
  clear hK K
  refine pure_ (i := 8) (N := some 15) (v := ?_) (a' := ?_) #[true, true, true, true, true, true, true, true, true, false, false] rfl rfl (by kernel_rfl) (fun _ _ _ h => h) (Or.inl ⟨by rfl, ?_⟩) ?_ ?_
  rotate_left
  · intro w'
    go_simp
    with_reducible rfl
  rotate_left
  · simp only [Act.put, List.setIfInBounds_toArray, List.set_cons_zero, List.set_cons_succ, i64_w, i32_w]
    rfl
  refine pure_ (i := 9) (N := some 16) (v := ?_) (a' := ?_) #[true, true, true, true, true, true, true, true, true, true, false] rfl rfl (by kernel_rfl) (fun _ _ _ h => h) (Or.inl ⟨by rfl, ?_⟩) ?_ ?_
  rotate_left
  · intro w'
    go_simp
    with_reducible rfl
  rotate_left
  · simp only [Act.put, List.setIfInBounds_toArray, List.set_cons_zero, List.set_cons_succ, i64_w, i32_w]
    rfl
  refine last_ (i := 10) (N := none) #[true, true, true, true, true, true, true, true, true, true, true] rfl rfl (by kernel_rfl) (by decide) (fun K hK => ?_)
  refine skip_ (w1 := ?_) (by rfl) rfl ?_ ?_
  rotate_left
  · go_simp
    rfl
  refine hK.out _ _ ?_
  clear hK K
  refine done_ (by kernel_rfl) ?_
  have hR5 := Kd.R_set hR4 b4 (fun k hk => by rcases List.mem_cons.1 hk with rfl | h; decide; cases h) 0 (.slice A4 1 c4)
  have b5 := blk_set b4 0 (.slice A4 1 c4)
  have hB5 : Below q w (w4.setCell ⟨q, 0, none⟩ (.slice A4 1 c4)) := (⟨hB4.os, hB4.tape, hB4.output, hB4.size, fun k hk => hB4.block k (by omega)⟩ : Below q w w4).setCell (p := ⟨q, 0, none⟩) (Nat.le_refl _) _
  go_wp2_with fail
  go_ret
  exact ⟨A4, c4, rfl, hc4, b5, (Kd.R_reads' hR5).2.2, hB5⟩
theorem size_u8 : (Value.int .u8 0).cells.size = (Kd.int .u8).sz := rfl
set_option maxHeartbeats 4000000 in
theorem clone1 {w : World} {A : Option Addr} {c : Nat} (hr : Kd.C (Kd.int .u8) w A 1 [0]) :
    Calls Try.prog 68 #[.slice A 1 c] w fun e w' => ∃ A' c', e = .returned (.slice A' 1 c') ∧ Kd.C (Kd.int .u8) w' A' 1 [0] ∧ Below w.heap.size w w' := by
  obtain ⟨ad, rfl, -⟩ := hr.2.2 (by decide)
  have HR := Aside0.mk hr
  clear hr
  have hn := fun (w : World) (a : Option Addr) (n c : Nat) => Lib.run_eql_slice_nil (P := Try.prog) w 48 5 a n c 0 0 Try.underlying48
  go_enter Try.func68, Try.ntmps68
  have HL : Aside0 ((Kd.int .u8).R 5 (w.alloc (.cells #[] 5)) w.heap.size (fun _ => True) (.slice (some ⟨w.heap.size, 0, none⟩) 0 0) ([] : List Int)) := ⟨⟨fun _ _ => trivial, OwnRow.lit w w.heap.size (R := (Kd.int .u8).M (w.alloc (.cells #[] 5)) w.heap.size _) (ps := []) (inner := []) ⟨rfl, fun j p hj => by simp at hj⟩ (Nat.le_refl _) (by simp)⟩⟩
  go_wp2_with ((with_reducible refine gate_builtin (b := .append) (xs := #[.tmp 5, .tmp 6]) rfl ?_); at_builtin; refine Kd.R_append_rows (Kd.int .u8) (w0 := w) w.heap.size rfl (.tmp 5) (.tmp 6) 48 5 (.int .u8 0) 1 rfl Try.underlying48 info5 rfl (by decide) (by decide) (.slice (some ⟨w.heap.size, 0, none⟩) 0 0) [] [0] (some ad) 1 c (fun _ => True) (fun _ => False) rfl rfl HL.out (Kd.C_alloc HR.out _) (fun x cs h => h) (fun _ h => h.elim) (fun _ _ => trivial) (below_alloc (Below.refl _ _) _) ?aS (by decide) ?_)
  case aS => exact (below_alloc (Below.refl _ _) _).size
  intro v1 w1 hR hB hg hat
  obtain ⟨A', c', rfl, hc', hC'⟩ := Kd.R_reads hR
  go_wp2_with fail
  go_ret
  exact ⟨A', c', rfl, hC', hB⟩
set_option maxHeartbeats 4000000 in
theorem done_calls {w : World} {q : Nat} {A : Option Addr} {c : Nat} (hq : w.heap[q]? = some (.cells #[.slice A 1 c, .bool false] 124 (0, 0))) (hr : Kd.C (Kd.int .u8) w A 1 [0]) :
    Calls Try.prog 53 #[.pointer (some ⟨q, 0, none⟩)] w fun e w' => ∃ A' c', e = .returned (.tuple #[.slice A' 1 c', .bool true]) ∧ Kd.C (Kd.int .u8) w' A' 1 [0] ∧ Below w.heap.size w w' := by
  have x0 : w.cell? ⟨q, 0, none⟩ = some (.slice A 1 c) := (blk_cell hq 0).trans rfl
  have x1 : w.cell? ⟨q, 1, none⟩ = some (.bool false) := (blk_cell hq 1).trans rfl
  go_enter Try.func53, Try.ntmps53
  go_wp2_with fail
  refine (clone1 hr).mono ?_
  rintro e w1 ⟨A', c', rfl, hC, hb⟩
  go_wp2_with fail
  go_ret2
  exact ⟨A', c', rfl, hC, hb⟩
set_option maxHeartbeats 4000000 in
theorem encode_nil {w : World} : Calls Try.prog 30 #[.pointer none] w fun e w' => ∃ A' c', e = .returned (.slice A' 1 c') ∧ Kd.C (Kd.int .u8) w' A' 1 [0] ∧ Below w.heap.size w w' := by
  go_enter Try.func30, Try.ntmps30
  go_wp2_with fail
  refine known_nil.mono ?_
  rintro e w1 ⟨rfl, rfl⟩
  go_wp2_with fail
  refine (num_calls (q := w1.heap.size) (blk_new _ _)).mono ?_
  rintro e w2 ⟨A, c, rfl, hc, hq, hC, hB⟩
  have HB2 : Aside0 (Below w1.heap.size w1 w2) := ⟨(below_alloc (Below.refl _ _) _).trans hB⟩
  have HC := Aside0.mk hC
  have HQ := Aside0.mk hq
  clear hC hq hB
  go_wp2_with fail
  go_loopw [20] (fun v wr => v = .int .i64 0 ∧ wr = w2) (fun _ _ => 0)
  case atStart => exact ⟨rfl, rfl⟩
  case round =>
    obtain ⟨rfl, rfl⟩ := hrel
    go_wp2_with fail
    refine (done_calls HQ.out HC.out).mono ?_
    rintro e w3 ⟨A', c', rfl, hC3, hb3⟩
    have HE := Aside0.mk (And.intro hC3 (HB2.out.trans (hb3.mono HB2.out.size)))
    clear hC3 hb3
    go_wp2_with fail
    go_ret
    exact ⟨A', c', rfl, HE.out.1, HE.out.2⟩
end Go.Proofs.Ytmdgkjjdcfpjiaa.PT
