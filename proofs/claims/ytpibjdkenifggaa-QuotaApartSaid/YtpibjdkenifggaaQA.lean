/- QuotaApart: the walk: what one uses another one has still. -/
import Derived.Test.YtpibjdkenifggaaQK
import Derived.Test.YtpibjdkenifggaaQN
import Derived.Laws.BytesArg
namespace Go.Proofs.Ytpibjdkenifggaa.QU
open Go.RowKit Go.Maps Go.MapKept Go.ChangeMaps Go.WideElems Go.WideMaps Go.WideShapes Go.Proofs.YtpibjdkenifggaaW.PrintWords Go.Proofs.YtpibjdkenifggaaW.PrintLast Go.Proofs.YtpibjdkenifggaaW.PrintMore Go.Proofs.Ytpibjdkenifggaa.PQuotaBound
set_option linter.unusedVariables false
set_option linter.unusedSimpArgs false
set_option maxRecDepth 100000
attribute [local go_sem] max2_int min2_int max_two min_two

/-- The i-th client's name. -/
def nm (i : Nat) : ByteArray := strOfNums [97 + (i : Int) / 26, 97 + (i : Int) % 26]
def ky (i : Nat) : Lit := .string (nm i).data.toList
theorem nm_ne : ∀ i, i < 60 → ∀ j, j < 60 → i ≠ j → (nm i).data.toList ≠ (nm j).data.toList := by decide +kernel
theorem ky_ne (i : Nat) (hi : i < 60) (j : Nat) (hj : j < 60) (h : i ≠ j) : ky i ≠ ky j := fun he => nm_ne i hi j hj h (by unfold ky at he; injection he)
theorem ky_key (i : Nat) : WideAt.IsKeyLit (ky i) := trivial
theorem key_nm (i : Nat) : keyOf Try.prog 9 (.string (nm i)) = some (ky i) := keyOf_string_mk Try.underlying9 (by unfold nm; rw [strOfNums_size]; show 2 ≤ maxLen; decide)
def v7 : DataW Value := .held (.agg #[.int .i64 7, .int .i64 0])
/-- Behind i clients that found room. -/
def DA : Nat → DataW Value
  | 0 => .map []
  | i + 1 => (DA i).put (ky i) v7
theorem mem_insert {p x : Lit × DataW Value} : ∀ {l : List (Lit × DataW Value)}, p ∈ DataW.insert x l → p = x ∨ p ∈ l
  | [], h => by simp [DataW.insert] at h; exact .inl h
  | y :: r, h => by
    unfold DataW.insert at h
    split at h
    · simpa using h
    · rcases List.mem_cons.1 h with h | h
      · exact .inr (by simp [h])
      · rcases mem_insert h with h | h
        · exact .inl h
        · exact .inr (by simp [h])
theorem DA_all : ∀ i, ∃ es, DA i = .map es ∧ ∀ p ∈ es, p.2 = v7
  | 0 => ⟨[], rfl, by simp⟩
  | i + 1 => by
    obtain ⟨es, h1, h2⟩ := DA_all i
    refine ⟨_, by unfold DA; rw [h1]; rfl, fun p hp => ?_⟩
    rcases mem_insert hp with rfl | hp
    · rfl
    · exact h2 p (List.mem_filter.1 hp).1
theorem DA_del (i : Nat) : Lib.deleteFuncD (pdQ 0 0) (DA i) = DA i := by
  obtain ⟨es, h1, h2⟩ := DA_all i
  rw [h1]
  show DataW.map (es.filter fun p => !pdQ 0 0 p.1 p.2) = _
  rw [List.filter_eq_self.2]
  intro p hp
  rw [h2 p hp]
  have := pdQ_of (rate := 0) (now := 0) (k := p.1) 7 0
  show (!pdQ 0 0 p.1 (.held (.agg #[.int .i64 7, .int .i64 0]))) = true
  rw [this]
  rfl
theorem DA_tidy : ∀ i, Maps.Tidy (DA i)
  | 0 => Maps.tidy_empty
  | i + 1 => (DA_tidy i).put (ky_key i) _
theorem DA_has : ∀ i, i ≤ 60 → ∀ j, i ≤ j → j < 60 → Maps.has (DA i) (ky j) = false
  | 0, _, _, _, _ => rfl
  | i + 1, hi, j, hj, hj2 => by
    unfold DA
    rw [has_put_other (ky_ne j hj2 i (by omega) (by omega))]
    exact DA_has i (by omega) j (by omega) hj2
theorem DA_size : ∀ i, i ≤ 60 → Maps.size (DA i) = i
  | 0, _ => rfl
  | i + 1, hi => by
    unfold DA
    rw [size_put (DA_tidy i), DA_has i (by omega) i (Nat.le_refl _) (by omega), DA_size i (by omega)]
    rfl
theorem conv_nm (W : World) (x y : Int) : (convert 24 9 (.slice (some ⟨W.heap.size, 0, none⟩) 2 2)).run Try.prog (W.alloc (.cells #[.int .u8 x, .int .u8 y] 5)) = .ok (.string (strOfNums [x, y])) (W.alloc (.cells #[.int .u8 x, .int .u8 y] 5)) :=
  run_convert_bytes_arg _ 24 5 Try.underlying24 Try.underlying5 W.heap.size 0 2 2 [x, y] rfl (fun i hi => by
    have h := blk_cell (blk_new W (.cells #[.int .u8 x, .int .u8 y] 5))
    rw [Nat.zero_add]
    rcases i with _ | _ | i
    · exact (h 0).trans rfl
    · exact (h 1).trans rfl
    · omega) 9 Try.underlying9
theorem zero_u {u a : Int} (h : (DataW.held zero103) = .held (.agg #[.int .i64 u, .int .i64 a])) : u = 0 ∧ a = 0 := by
  injection h with h
  unfold zero103 at h
  injection h with h
  simp at h
  exact ⟨h.1.symm, h.2.symm⟩
/-- One that is not known. -/
theorem left_new {w : World} {g b n i j : Nat} {most : Int} (hI : IsQ w g b 0 10 most 0 n (DA i)) (hi : i ≤ j) (hj : j < 60) :
    Calls Try.prog 27 #[.pointer (some ⟨g, 0, none⟩), .string (nm j), .int .i64 0] w fun e w' => e = .returned (.int .i64 10) ∧ IsQ w' g b 0 10 most 0 n (DA i) ∧ KQ w w' g b := by
  refine (left_calls (t := 0) hI (key_nm j)).mono ?_
  rintro e w' ⟨u, a, hq, hat, rfl, hI', hK⟩
  rw [nowF_id (by decide) (by decide), DA_del] at hat hI'
  rw [atKey_of_not_has (DA_has i (by omega) j hi hj)] at hat
  obtain ⟨rfl, rfl⟩ := zero_u hat
  exact ⟨rfl, hI', hK⟩
theorem use_new {w : World} {g b n i j : Nat} {most : Int} (hI : IsQ w g b 0 10 most 0 n (DA i)) (hi : i ≤ j) (hj : j < 60) (hn : n < 1000000) :
    Calls Try.prog 25 #[.pointer (some ⟨g, 0, none⟩), .string (nm j), .int .i64 7, .int .i64 0] w fun e w' => ∃ rv n' D', e = .returned (.int .i64 rv) ∧ n' ≤ n + 1 ∧ IsQ w' g b 0 10 most 0 n' D' ∧ KQ w w' g b ∧
      (((i : Int) ≥ most ∧ rv = 15 ∧ D' = DA i) ∨ (¬ (i : Int) ≥ most ∧ rv = 0 ∧ D' = (DA i).put (ky j) v7)) := by
  refine (use_calls (t := 0) hI hn (by decide) (by decide) (key_nm j)).mono ?_
  rintro e w' ⟨u, a, rv, n', D', hq, hat, rfl, hR, hI', hK⟩
  rw [nowF_id (by decide) (by decide), DA_del] at hat hR
  rw [nowF_id (by decide) (by decide)] at hI'
  rw [atKey_of_not_has (DA_has i (by omega) j hi hj)] at hat
  obtain ⟨rfl, rfl⟩ := zero_u hat
  unfold UseR at hR
  have hu : usedF 0 0 0 0 = 0 := rfl
  rw [hu, DA_size i (by omega), DA_has i (by omega) j hi hj] at hR
  rcases hR with ⟨h1, _⟩ | ⟨h1, h2, h3, rfl, rfl, rfl⟩ | ⟨h1, h2, rfl, rfl, rfl⟩
  · exact absurd h1 (by decide)
  · exact ⟨15, n', _, rfl, by omega, hI', hK, .inl ⟨h3, rfl, rfl⟩⟩
  · refine ⟨0, n + 1, _, rfl, Nat.le_refl _, hI', hK, .inr ⟨?_, rfl, rfl⟩⟩
    rcases h2 with h2 | h2
    · cases h2
    · exact h2
set_option maxHeartbeats 4000000 in
theorem use_none {w : World} {g b n i : Nat} {most : Int} (hI : IsQ w g b 0 10 most 0 n (DA i)) (s : ByteArray) :
    Calls Try.prog 25 #[.pointer (some ⟨g, 0, none⟩), .string s, .int .i64 0, .int .i64 0] w fun e w' => e = .returned (.int .i64 0) ∧ IsQ w' g b 0 10 most 0 n (DA i) ∧ KQ w w' g b := by
  have HI := Aside0.mk hI
  clear hI
  go_enter Try.func25, Try.ntmps25
  go_wp2_with fail
  refine (goes_calls HI.out.blk HI.out.own HI.out.r0 HI.out.r1 HI.out.n0 HI.out.n1).mono ?_
  rintro e w1 ⟨rfl, hg1, ho1, hk1⟩
  rw [nowF_id (by decide) (by decide)] at hg1 ho1
  rw [DA_del] at ho1
  go_wp2_with fail
  go_ret
  exact ⟨rfl, ⟨hg1, ho1, HI.out.r0, HI.out.r1, HI.out.b0, HI.out.b1, by decide, by decide⟩, hk1⟩
/-- Nothing. -/
theorem use_nil {w : World} (s : ByteArray) (k : Int) : Calls Try.prog 25 #[.pointer none, .string s, .int .i64 k, .int .i64 0] w fun e w' => e = .returned (.int .i64 (if k < 0 then 1 else 0)) ∧ w' = w := by
  by_cases h : k < 0
  · rw [if_pos h]
    go_enter Try.func25, Try.ntmps25
    go_wp2_with fail
    go_ret
    exact ⟨rfl, rfl⟩
  · rw [if_neg h]
    go_enter Try.func25, Try.ntmps25
    go_wp2_with fail
    go_ret
    exact ⟨rfl, rfl⟩
theorem left_nil {w : World} (s : ByteArray) : Calls Try.prog 27 #[.pointer none, .string s, .int .i64 0] w fun e w' => e = .returned (.int .i64 0) ∧ w' = w := by
  go_enter Try.func27, Try.ntmps27
  go_wp2_with fail
  go_ret
  exact ⟨rfl, rfl⟩
theorem wait_nil {w : World} (s : ByteArray) : Calls Try.prog 26 #[.pointer none, .string s, .int .i64 1, .int .i64 0] w fun e w' => e = .returned (.tuple #[.int .i64 0, .bool false]) ∧ w' = w := by
  go_enter Try.func26, Try.ntmps26
  go_wp2_with fail
  go_ret2
  exact ⟨rfl, rfl⟩
/-- Behind i clients. -/
def LA (w : World) (g b : Nat) (most : Int) (n : Nat) (vi : Value) (wr : World) : Prop :=
  ∃ (i nn : Nat), vi = .int .i64 (i : Int) ∧ i ≤ n ∧ nn ≤ i ∧ IsQ wr g b 0 10 most 0 nn (DA (min i most.toNat)) ∧ Below w.heap.size w wr
set_option maxHeartbeats 4000000 in
theorem quotaApart_walk (a0 : Int) (a1 : Int) (w : World)  (q0 : (Lit.int .i64 a0).wf = true) (q1 : (Lit.int .i64 a1).wf = true) :
    Calls Try.prog 12 #[.int .i64 a0, .int .i64 a1] w fun e w' => e = .returned (.bool true) ∧ Below w.heap.size w w' := by
  clear q0 q1
  by_cases h1 : a0 < 1
  · go_enter Try.func12, Try.ntmps12
    go_wp2_with fail
    all_goals (refine awake_calls.mono ?_; rintro e w' ⟨rfl, hb⟩; go_wp2_with fail; go_ret; exact ⟨rfl, hb⟩)
  by_cases h2 : a0 > 50
  · go_enter Try.func12, Try.ntmps12
    go_wp2_with fail
    all_goals (refine awake_calls.mono ?_; rintro e w' ⟨rfl, hb⟩; go_wp2_with fail; go_ret; exact ⟨rfl, hb⟩)
  by_cases h3 : a1 < 0
  · go_enter Try.func12, Try.ntmps12
    go_wp2_with fail
    all_goals (refine awake_calls.mono ?_; rintro e w' ⟨rfl, hb⟩; go_wp2_with fail; go_ret; exact ⟨rfl, hb⟩)
  by_cases h4 : a1 > 60
  · go_enter Try.func12, Try.ntmps12
    go_wp2_with fail
    all_goals (refine awake_calls.mono ?_; rintro e w' ⟨rfl, hb⟩; go_wp2_with fail; go_ret; exact ⟨rfl, hb⟩)
  obtain ⟨m, rfl⟩ : ∃ m : Nat, a0 = (m : Int) := ⟨a0.toNat, by omega⟩
  obtain ⟨n, rfl⟩ : ∃ n : Nat, a1 = (n : Int) := ⟨a1.toNat, by omega⟩
  have hm1 : 1 ≤ m := by omega
  have hm2 : m ≤ 50 := by omega
  have hn2 : n ≤ 60 := by omega
  clear h1 h2 h3 h4
  go_enter Try.func12, Try.ntmps12
  go_wp2_with fail
  refine (new_calls (by decide) (by decide) (by decide) (by decide) (by omega) (by omega)).mono ?_
  rintro e w1 ⟨rfl, hI1, hB1⟩
  have HI1 := Aside0.mk hI1
  have HB1 := Aside0.mk hB1
  clear hI1 hB1
  go_wp2_with fail
  go_loopw [7] (fun vi wr => LA w (w.heap.size + 1) w.heap.size m n vi wr) (fun vi _ => n - (intOf vi).toNat)
  case atStart => exact ⟨0, 0, rfl, Nat.zero_le _, Nat.le_refl _, by rw [Nat.zero_min]; exact HI1.out, HB1.out⟩
  case round =>
    obtain ⟨i, nn, rfl, hi, hnn, hI, hB⟩ := hrel
    have HI := Aside0.mk hI
    have HB := Aside0.mk hB
    clear hI hB
    have hmt : ((m : Int)).toNat = m := Int.toNat_natCast m
    rw [hmt] at HI
    by_cases hlt : i < n
    · have hcv := conv_nm wr (97 + (i : Int) / 26) (97 + (i : Int) % 26)
      rw [show strOfNums [97 + (i : Int) / 26, 97 + (i : Int) % 26] = nm i from rfl] at hcv
      have hi60 : i < 60 := by omega
      by_cases him : i < m
      · rw [show min i m = i by omega] at HI
        go_wp2_with fail
        refine (left_new (j := i) (HI.out.below (below_alloc (Below.refl _ _) _)) (Nat.le_refl _) hi60).mono ?_
        rintro e w2 ⟨rfl, hI2, hK2⟩
        have HI2 := Aside0.mk hI2
        have HB2 : Aside0 (Below w.heap.size w w2) := ⟨hK2.to (below_alloc HB.out _) (Nat.le_succ _) (Nat.le_refl _)⟩
        clear hI2 hK2 hcv
        go_wp2_with fail
        refine (use_new (j := i) HI2.out (Nat.le_refl _) hi60 (by omega)).mono ?_
        rintro e w3 ⟨rv, n3, D3, rfl, hn3, hI3, hK3, hR⟩
        obtain ⟨rfl, rfl⟩ : rv = 0 ∧ D3 = DA (i + 1) := by
          rcases hR with ⟨h, _⟩ | ⟨_, h1, h2⟩
          · omega
          · exact ⟨h1, h2⟩
        have HI3 := Aside0.mk hI3
        have HB3 : Aside0 (Below w.heap.size w w3) := ⟨hK3.to HB2.out (Nat.le_succ _) (Nat.le_refl _)⟩
        clear hI3 hK3 hR
        go_wp2_with fail
        refine (use_none HI3.out _).mono ?_
        rintro e w4 ⟨rfl, hI4, hK4⟩
        have HI4 := Aside0.mk hI4
        have HB4 : Aside0 (Below w.heap.size w w4) := ⟨hK4.to HB3.out (Nat.le_succ _) (Nat.le_refl _)⟩
        clear hI4 hK4
        go_wp2_with fail
        refine ⟨⟨i + 1, n3, rfl, hlt, by omega, ?_, HB4.out⟩, meas _ _ hlt⟩
        rw [hmt, show min (i + 1) m = i + 1 by omega]
        exact HI4.out
      · rw [show min i m = m by omega] at HI
        go_wp2_with fail
        refine (left_new (j := i) (HI.out.below (below_alloc (Below.refl _ _) _)) (by omega) hi60).mono ?_
        rintro e w2 ⟨rfl, hI2, hK2⟩
        have HI2 := Aside0.mk hI2
        have HB2 : Aside0 (Below w.heap.size w w2) := ⟨hK2.to (below_alloc HB.out _) (Nat.le_succ _) (Nat.le_refl _)⟩
        clear hI2 hK2 hcv
        go_wp2_with fail
        refine (use_new (j := i) HI2.out (by omega) hi60 (by omega)).mono ?_
        rintro e w3 ⟨rv, n3, D3, rfl, hn3, hI3, hK3, hR⟩
        obtain ⟨rfl, rfl⟩ : rv = 15 ∧ D3 = DA m := by
          rcases hR with ⟨_, h1, h2⟩ | ⟨h, _⟩
          · exact ⟨h1, h2⟩
          · omega
        have HI3 := Aside0.mk hI3
        have HB3 : Aside0 (Below w.heap.size w w3) := ⟨hK3.to HB2.out (Nat.le_succ _) (Nat.le_refl _)⟩
        clear hI3 hK3 hR
        go_wp2_with fail
        refine (use_none HI3.out _).mono ?_
        rintro e w4 ⟨rfl, hI4, hK4⟩
        have HI4 := Aside0.mk hI4
        have HB4 : Aside0 (Below w.heap.size w w4) := ⟨hK4.to HB3.out (Nat.le_succ _) (Nat.le_refl _)⟩
        clear hI4 hK4
        go_wp2_with fail
        refine ⟨⟨i + 1, n3, rfl, hlt, by omega, ?_, HB4.out⟩, meas _ _ hlt⟩
        rw [hmt, show min (i + 1) m = m by omega]
        exact HI4.out
    · obtain rfl : i = n := by omega
      go_wp2_with fail
      refine (wait_nil _).mono ?_
      rintro e w2 ⟨rfl, rfl⟩
      go_wp2_with fail
      have hds := DA_size (min i m) (by omega)
      refine (walk_calls HI.out (by rw [hds]; omega) (by decide)).mono ?_
      rintro e w3 ⟨A3, c3, k3, rfl, hk3, hI3, hb3⟩
      rw [hds] at hk3
      obtain rfl : k3 = min i m := by omega
      have HB3 : Aside0 (Below w.heap.size w w3) := ⟨HB.out.trans (hb3.mono HB.out.size)⟩
      clear hI3 hb3 hk3 hds
      have hmin : (if (m : Int) < (i : Int) then (m : Int) else (i : Int)) = ((min i m : Nat) : Int) := by split <;> omega
      have hmin2 : (if (i : Int) < (m : Int) then (i : Int) else (m : Int)) = ((min i m : Nat) : Int) := by split <;> omega
      clear hmin hmin2
      go_wp2_with fail
      all_goals (
        refine (use_nil _ 5).mono ?_
        rintro e w4 ⟨rfl, rfl⟩
        rw [if_neg (by decide)]
        go_wp2_with fail
        refine (use_nil _ (-1)).mono ?_
        rintro e w5 ⟨rfl, rfl⟩
        rw [if_pos (by decide)]
        go_wp2_with fail
        refine (left_nil _).mono ?_
        rintro e w6 ⟨rfl, rfl⟩
        go_wp2_with fail
        refine walk_nil.mono ?_
        rintro e w7 ⟨c7, rfl, hb7⟩
        have HB7 : Aside0 (Below w.heap.size w w7) := ⟨HB3.out.trans (hb7.mono HB3.out.size)⟩
        clear hb7
        go_wp2_with fail
        refine awake_calls.mono ?_
        rintro e w8 ⟨rfl, hB8⟩
        go_wp2_with fail
        go_ret
        exact ⟨rfl, HB7.out.trans (hB8.mono HB7.out.size)⟩)
end Go.Proofs.Ytpibjdkenifggaa.QU
