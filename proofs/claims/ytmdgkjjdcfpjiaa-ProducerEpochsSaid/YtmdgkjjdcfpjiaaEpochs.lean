/- ProducerEpochs: the walk. -/
import Derived.Test.YtmdgkjjdcfpjiaaPW
namespace Go.Proofs.Ytmdgkjjdcfpjiaa.PT
open Go.RowKit Go.Maps Go.MapKept Go.ChangeMaps Go.WideElems Go.WideMaps Go.WideShapes Go.Proofs.YtmdgkjjdcfpjiaaW.PrintWords Go.Proofs.YtmdgkjjdcfpjiaaW.PrintLast Go.Proofs.YtmdgkjjdcfpjiaaW.PrintMore Go.Proofs.Ytmdgkjjdcfpjiaa.PProducerOnce
set_option linter.unusedVariables false
set_option linter.unusedSimpArgs false
set_option maxRecDepth 100000

theorem info55 : (Try.prog.info? 55).map (fun i => (i.zero, i.size, i.bytes)) = some (some (.agg #[.int .i64 0, .int .i64 0, .bool false, .slice none 0 0, .bool false, .slice none 0 0]), 6, 80) := by kernel_rfl
/-- make([]Record, n). -/
theorem make_rec (n : Nat) (hn : n ≤ 1000) : ∃ MC : Array Value, ∀ W : World, (Instr.makeSlice 26 (.int .i64 (n : Int)) (.int .i64 (n : Int))).run Try.prog W = .ok (.slice (some ⟨W.heap.size, 0, none⟩) n n) (W.alloc (.cells MC 55)) := by
  obtain ⟨i0, hi, hzz⟩ := Option.map_eq_some_iff.1 info55
  simp only [Prod.mk.injEq] at hzz
  obtain ⟨hz0, hz1, hz2⟩ := hzz
  refine ⟨madeCells (Value.agg #[.int .i64 0, .int .i64 0, .bool false, .slice none 0 0, .bool false, .slice none 0 0]).cells (n * 6), fun W => ?_⟩
  have hr := run_make (P := Try.prog) W 26 55 i0 _ Try.underlying26 hi hz0 .i64 .i64 (n : Int) (n : Int) (by omega) (by omega) (by rw [hz2]; omega) (by omega)
  simp only [Int.toNat_natCast] at hr
  rw [hz1] at hr
  exact hr
theorem add_none {f : Tab} {p ep n base : Int} (hp : 0 < p) (hf : f p = none) (hn : n ≠ 0) : addT f p ep 0 n base = (0, fun q => if q = p then some ⟨ep, [⟨0, n, base⟩]⟩ else f q) := by
  have h0 : ¬ p ≤ 0 := by omega
  unfold addT checkT oneT
  simp [h0, hf, hn]
theorem add_young {f : Tab} {p ep n base : Int} {o : One} (hp : 0 < p) (hf : f p = some o) (hep : o.ep < ep) (hn : n ≠ 0) : addT f p ep 0 n base = (0, fun q => if q = p then some ⟨ep, [⟨0, n, base⟩]⟩ else f q) := by
  have h0 : ¬ p ≤ 0 := by omega
  have h1 : ¬ ep < o.ep := by omega
  unfold addT checkT oneT
  simp [h0, hf, hn, h1, hep]
theorem check_gap {f : Tab} {p ep seq n : Int} {o : One} (hp : 0 < p) (hf : f p = some o) (hep : o.ep < ep) (hs : seq ≠ 0) : checkT f p ep seq n = (0, false, 10) := by
  unfold checkT
  rw [if_neg (by omega), hf]
  have h1 : ¬ ep < o.ep := by omega
  simp [h1, hep, hs]
theorem check_over {f : Tab} {p ep seq n : Int} {o : One} (hp : 0 < p) (hf : f p = some o) (hep : ep < o.ep) : checkT f p ep seq n = (0, false, 11) := by
  unfold checkT
  rw [if_neg (by omega), hf]
  simp [hep]
theorem check_dup {f : Tab} {p ep n base : Int} (hp : 0 < p) (hf : f p = some ⟨ep, [⟨0, n, base⟩]⟩) (hn : 0 < n) (hn2 : n ≤ 1000) : checkT f p ep 0 n = (base, true, 0) := by
  unfold checkT nextO
  rw [if_neg (by omega), hf]
  have h1 : wrap64 (0 + n) = n := by unfold wrap64; omega
  have h2 : ¬ (0 = n) := by omega
  simp only [List.getLast?_singleton, Int.lt_irrefl, if_false, h1, if_neg h2, gt_iff_lt]
  simp

set_option maxHeartbeats 4000000 in
theorem producerEpochs_walk (a0 : Int) (a1 : Int) (a2 : Int) (w : World)  (q0 : (Lit.int .i64 a0).wf = true) (q1 : (Lit.int .i64 a1).wf = true) (q2 : (Lit.int .i64 a2).wf = true) :
    Calls Try.prog 4 #[.int .i64 a0, .int .i64 a1, .int .i64 a2] w fun e w' => e = .returned (.bool true) ∧ Below w.heap.size w w' := by
  by_cases h1 : a0 < 0
  · go_enter Try.func4, Try.ntmps4
    go_wp2_with fail
    refine awake_calls.mono ?_
    rintro e w' ⟨rfl, hb⟩
    go_wp2_with fail
    go_ret
    exact ⟨rfl, hb⟩
  by_cases h2 : a1 ≤ a0
  · go_enter Try.func4, Try.ntmps4
    go_wp2_with fail
    refine awake_calls.mono ?_
    rintro e w' ⟨rfl, hb⟩
    go_wp2_with fail
    go_ret
    exact ⟨rfl, hb⟩
  by_cases h3 : a1 > 32767
  · go_enter Try.func4, Try.ntmps4
    go_wp2_with fail
    refine awake_calls.mono ?_
    rintro e w' ⟨rfl, hb⟩
    go_wp2_with fail
    go_ret
    exact ⟨rfl, hb⟩
  by_cases h4 : a2 < 1
  · go_enter Try.func4, Try.ntmps4
    go_wp2_with fail
    refine awake_calls.mono ?_
    rintro e w' ⟨rfl, hb⟩
    go_wp2_with fail
    go_ret
    exact ⟨rfl, hb⟩
  by_cases h5 : a2 > 50
  · go_enter Try.func4, Try.ntmps4
    go_wp2_with fail
    refine awake_calls.mono ?_
    rintro e w' ⟨rfl, hb⟩
    go_wp2_with fail
    go_ret
    exact ⟨rfl, hb⟩
  obtain ⟨n, rfl⟩ : ∃ n : Nat, a2 = (n : Int) := ⟨a2.toNat, by omega⟩
  have HQ := Aside0.mk q2
  clear q2
  have hn1 : 1 ≤ n := by omega
  have hn2 : n ≤ 50 := by omega
  obtain ⟨MC, hmk⟩ := make_rec n (by omega)
  obtain ⟨M1, hm1⟩ := make_rec 1 (by omega)
  change ∀ W : World, (Instr.makeSlice 26 (.int .i64 1) (.int .i64 1)).run Try.prog W = .ok (.slice (some ⟨W.heap.size, 0, none⟩) 1 1) (W.alloc (.cells M1 55)) at hm1
  have h01 : a0 < a1 := by omega
  have hw2 : IntKind.i64.wrap (2 * (n : Int)) = 2 * (n : Int) := IntWalk.i64_in _ (by omega)
  obtain ⟨F1, hA, v11, v12⟩ : ∃ F1, addT none_ 1 a0 0 (n : Int) 0 = (0, F1) ∧ F1 1 = some ⟨a0, [⟨0, n, 0⟩]⟩ ∧ F1 2 = none := ⟨_, add_none (by decide) rfl (by omega), rfl, rfl⟩
  obtain ⟨F2, hA2, v21, v22⟩ : ∃ F2, addT F1 2 a0 0 (n : Int) n = (0, F2) ∧ F2 1 = F1 1 ∧ F2 2 = some ⟨a0, [⟨0, n, n⟩]⟩ := ⟨_, add_none (by decide) v12 (by omega), rfl, rfl⟩
  have hG := check_gap (f := F2) (p := 1) (ep := a1) (seq := (n : Int)) (n := ((1 : Nat) : Int)) (by decide) (v21.trans v11) h01 (by omega)
  obtain ⟨F3, hA3, v31, v32⟩ : ∃ F3, addT F2 1 a1 0 ((1 : Nat) : Int) (2 * (n : Int)) = (0, F3) ∧ F3 1 = some ⟨a1, [⟨0, ((1 : Nat) : Int), 2 * n⟩]⟩ ∧ F3 2 = F2 2 := ⟨_, add_young (by decide) (v21.trans v11) h01 (by decide), rfl, rfl⟩
  have hO := check_over (f := F3) (p := 1) (ep := a0) (seq := (n : Int)) (n := ((1 : Nat) : Int)) (by decide) v31 h01
  have hD := check_dup (f := F3) (p := 2) (n := (n : Int)) (by decide) (v32.trans v22) (by omega) (by omega)
  have hX : nextT F3 1 = (a1, 1, true) := by
    have h1 : wrap64 (0 + ((1 : Nat) : Int)) = 1 := by unfold wrap64; omega
    unfold nextT
    rw [v31]
    show (a1, wrap64 (0 + ((1 : Nat) : Int)), true) = (a1, 1, true)
    rw [h1]
  have HA := Aside0.mk hA
  have HA2 := Aside0.mk hA2
  have HA3 := Aside0.mk hA3
  have HG := Aside0.mk hG
  have HO := Aside0.mk hO
  have HD := Aside0.mk hD
  have HX := Aside0.mk hX
  clear hA hA2 hA3 hG hO hD hX v11 v12 v21 v22 v31 v32
  have H01 := Aside0.mk h01
  clear h01
  have HN1 := Aside0.mk hn1
  have HN2 := Aside0.mk hn2
  clear hn1 hn2
  go_enter Try.func4, Try.ntmps4
  go_wp2_with fail
  refine (new_pt (w0 := w) (Below.refl _ _)).mono ?_
  rintro e w1 ⟨g, b, rfl, hI, hB, -, -, -⟩
  go_wp2_with fail
  refine (add_to (w0 := w) (n := n) HA.out (hI.alloc _) (below_alloc hB _) (by decide) (by decide)).mono ?_
  rintro e w2 ⟨rfl, hI2, hB2, -⟩
  go_wp2_with fail
  refine (add_to (w0 := w) (n := n) HA2.out (hI2.alloc _) (below_alloc hB2 _) (by decide) (by decide)).mono ?_
  rintro e w3 ⟨rfl, hI3, hB3, -⟩
  go_wp2_with fail
  refine (check_to (w0 := w) (n := 1) HG.out (hI3.alloc _) (below_alloc hB3 _) (by decide)).mono ?_
  rintro e w4 ⟨rfl, hI4, hB4, -⟩
  go_wp2_with fail
  refine (add_to (w0 := w) (n := 1) HA3.out (hI4.alloc _) (below_alloc hB4 _) (by decide) (by decide)).mono ?_
  rintro e w5 ⟨rfl, hI5, hB5, -⟩
  go_wp2_with fail
  refine (check_to (w0 := w) (n := 1) HO.out (hI5.alloc _) (below_alloc hB5 _) (by decide)).mono ?_
  rintro e w6 ⟨rfl, hI6, hB6, -⟩
  go_wp2_with fail
  refine (check_to (w0 := w) (n := n) HD.out (hI6.alloc _) (below_alloc hB6 _) (by decide)).mono ?_
  rintro e w7 ⟨rfl, hI7, hB7, -⟩
  go_wp2_with fail
  refine (next_pt (w0 := w) hI7 1 (by decide) HX.out).mono ?_
  rintro e w8 ⟨rfl, hB8⟩
  go_wp2_with fail
  refine awake_calls.mono ?_
  rintro e w9 ⟨rfl, hB9⟩
  go_wp2_with fail
  go_ret
  have h8 := hB7.trans (hB8.mono hB7.size)
  exact ⟨rfl, h8.trans (hB9.mono h8.size)⟩
end Go.Proofs.Ytmdgkjjdcfpjiaa.PT
