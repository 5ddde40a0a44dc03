/- One client's account, in plain words. -/
import Derived.Test.YtpibjdkenifggaaQW
namespace Go.Proofs.Ytpibjdkenifggaa.QU
open Go.RowKit Go.Maps Go.MapKept Go.ChangeMaps Go.WideElems Go.WideMaps Go.WideShapes Go.Proofs.YtpibjdkenifggaaW.PrintWords Go.Proofs.YtpibjdkenifggaaW.PrintLast Go.Proofs.YtpibjdkenifggaaW.PrintMore
set_option linter.unusedVariables false
set_option linter.unusedSimpArgs false
set_option maxRecDepth 100000

/-- used, in one word. -/
theorem usedF_max {rate now u a : Int} (hq : inQ u a) (hr0 : 0 ≤ rate) : usedF rate now u a = max 0 (u - rate * (now - a)) := by
  have h0 := usedF_nonneg (now := now) hq hr0
  obtain ⟨q1, q2, q3, q4⟩ := hq
  unfold usedF at h0 ⊢
  split
  · rename_i h
    obtain ⟨hr, h⟩ := h
    rw [ge_iff_le, Int.tdiv_eq_ediv_of_nonneg (by omega)] at h
    have h3 := Int.lt_mul_ediv_self_add (x := u + rate - 1) hr
    have h4 : rate * ((u + rate - 1) / rate) ≤ rate * (now - a) := Int.mul_le_mul_of_nonneg_left h hr0
    omega
  · rename_i h
    rw [if_neg h] at h0
    omega
/-- The client's key. -/
def kA : Lit := .string [97]
theorem keyA : keyOf Try.prog 9 (.string ⟨#[97]⟩) = some kA := keyOf_string_mk Try.underlying9 (by decide)
theorem isA : WideAt.IsKeyLit kA := trivial
/-- One client's account. -/
abbrev Acc := Option (Int × Int)
def dOf : Acc → DataW Value
  | none => .map []
  | some (u, a) => .map [(kA, .held (.agg #[.int .i64 u, .int .i64 a]))]
def V (rate t : Int) : Acc → Int
  | none => 0
  | some (u, a) => usedF rate t u a
def okX : Acc → Prop
  | none => True
  | some (u, a) => inQ u a
theorem V_nonneg {rate t : Int} {x : Acc} (h : okX x) (hr : 0 ≤ rate) : 0 ≤ V rate t x := by
  rcases x with _ | ⟨u, a⟩
  · exact Int.le_refl 0
  · exact usedF_nonneg h hr
theorem V_later {rate t s : Int} {x : Acc} (h : okX x) (hr : 0 ≤ rate) (hs : 0 ≤ s) : V rate (t + s) x = max 0 (V rate t x - rate * s) := by
  have hm : 0 ≤ rate * s := Int.mul_nonneg hr hs
  rcases x with _ | ⟨u, a⟩
  · show (0 : Int) = max 0 (0 - rate * s)
    omega
  · show usedF rate (t + s) u a = max 0 (usedF rate t u a - rate * s)
    rw [usedF_max h hr, usedF_max h hr]
    have e : rate * (t + s - a) = rate * (t - a) + rate * s := by rw [← Int.mul_add]; congr 1; omega
    rw [e]
    omega
/-- What is left of an account at a time. -/
def cutX (rate m : Int) (x : Acc) : Acc := if V rate m x = 0 then none else x
theorem del_dOf {rate m : Int} {x : Acc} : Lib.deleteFuncD (pdQ rate m) (dOf x) = dOf (cutX rate m x) := by
  rcases x with _ | ⟨u, a⟩
  · unfold cutX
    split <;> rfl
  · have hp := pdQ_of (rate := rate) (now := m) (k := kA) u a
    unfold cutX
    show DataW.map ([(kA, DataW.held (.agg #[.int .i64 u, .int .i64 a]))].filter fun p => !pdQ rate m p.1 p.2) = _
    by_cases h : usedF rate m u a = 0
    · rw [if_pos (show V rate m (some (u, a)) = 0 from h)]
      simp [List.filter, hp, h, dOf]
    · rw [if_neg (show ¬ V rate m (some (u, a)) = 0 from h)]
      have hb : (usedF rate m u a == 0) = false := by simpa using h
      simp [List.filter, hp, hb, dOf]
theorem cut_ok {rate m : Int} {x : Acc} (h : okX x) : okX (cutX rate m x) := by
  unfold cutX
  split
  · trivial
  · exact h
theorem V_cut {rate m t : Int} {x : Acc} (h : okX x) (hr : 0 ≤ rate) (ht : m ≤ t) : V rate t (cutX rate m x) = V rate t x := by
  unfold cutX
  split
  · rename_i h0
    obtain ⟨s, rfl, hs⟩ : ∃ s, t = m + s ∧ 0 ≤ s := ⟨t - m, by omega, by omega⟩
    have hm : 0 ≤ rate * s := Int.mul_nonneg hr hs
    rw [V_later h hr hs, h0]
    show (0 : Int) = _
    omega
  · rfl
theorem at_dOf {x : Acc} {rate m u a : Int} (hr : 0 ≤ rate) (hm : 0 ≤ m) (h : (dOf x).atKey kA (.held zero103) = .held (.agg #[.int .i64 u, .int .i64 a])) : usedF rate m u a = V rate m x := by
  rcases x with _ | ⟨u', a'⟩
  · have h : DataW.held zero103 = .held (.agg #[.int .i64 u, .int .i64 a]) := h
    injection h with h
    unfold zero103 at h
    injection h with h
    simp at h
    obtain ⟨rfl, rfl⟩ := h
    show usedF rate m 0 0 = 0
    rw [usedF_max ⟨by decide, by decide, by decide, by decide⟩ hr]
    have : 0 ≤ rate * (m - 0) := Int.mul_nonneg hr (by omega)
    omega
  · have h1 : (dOf (some (u', a'))).atKey kA (.held zero103) = .held (.agg #[.int .i64 u', .int .i64 a']) := rfl
    rw [h1] at h
    injection h with h
    injection h with h
    simp at h
    obtain ⟨rfl, rfl⟩ := h
    rfl
theorem put_dOf {x : Acc} {u a : Int} : (dOf x).put kA (.held (.agg #[.int .i64 u, .int .i64 a])) = dOf (some (u, a)) := by
  rcases x with _ | ⟨u', a'⟩ <;> rfl
theorem size_dOf {x : Acc} : (Maps.size (dOf x) : Int) ≤ 1 := by
  rcases x with _ | ⟨u', a'⟩
  · decide
  · exact Int.le_refl 1
theorem nowF_id {now t : Int} (h : now ≤ t) (ht : t ≤ 1125899906842624) : nowF now t = t := by unfold nowF; split <;> split at * <;> omega

/-- Use, by one client alone. -/
theorem use_a {w : World} {g b n : Nat} {rate burst most now t k : Int} {x : Acc} (hI : IsQ w g b rate burst most now n (dOf x)) (hx : okX x) (hn : n < 1000000) (hk : 0 < k) (hk1 : k ≤ 4398046511104) (hmost : 2 ≤ most) (ht : now ≤ t) (ht1 : t ≤ 1125899906842624) :
    Calls Try.prog 25 #[.pointer (some ⟨g, 0, none⟩), .string ⟨#[97]⟩, .int .i64 k, .int .i64 t] w fun e w' => ∃ rv n' x', e = .returned (.int .i64 rv) ∧ IsQ w' g b rate burst most t n' (dOf x') ∧ okX x' ∧ n' ≤ n + 1 ∧ KQ w w' g b ∧
      ((rv = 15 ∧ k > burst - V rate t x ∧ ∀ t', t ≤ t' → V rate t' x' = V rate t' x) ∨ (rv = 0 ∧ k ≤ burst - V rate t x ∧ V rate t x' = V rate t x + k)) := by
  have hr0 := hI.r0
  have hb1 := hI.b1
  have hn0 := hI.n0
  refine (use_calls (t := t) hI hn hk hk1 keyA).mono ?_
  rintro e w' ⟨u, a, rv, n', D', hq, hat, rfl, hR, hI', hK⟩
  rw [nowF_id ht ht1] at hat hR hI'
  rw [del_dOf] at hat hR
  have hu : usedF rate t u a = V rate t x := by rw [at_dOf hr0 (by omega) hat, V_cut hx hr0 (Int.le_refl _)]
  have hV := V_nonneg (t := t) hx hr0
  unfold UseR at hR
  rw [hu] at hR
  rcases hR with ⟨h1, rfl, rfl, rfl⟩ | ⟨h1, h2, h3, _⟩ | ⟨h1, h2, rfl, rfl, rfl⟩
  · exact ⟨15, n', _, rfl, hI', cut_ok hx, by omega, hK, .inl ⟨rfl, h1, fun t' h => V_cut hx hr0 h⟩⟩
  · have := size_dOf (x := cutX rate t x)
    omega
  · rw [put_dOf] at hI'
    have hq2 : inQ (V rate t x + k) t := ⟨by omega, by omega, by omega, ht1⟩
    refine ⟨0, n + 1, _, rfl, hI', hq2, Nat.le_refl _, hK, .inr ⟨rfl, by omega, ?_⟩⟩
    show usedF rate t (V rate t x + k) t = _
    rw [usedF_max hq2 hr0, Int.sub_self, Int.mul_zero]
    omega
set_option maxHeartbeats 4000000 in
theorem use_zero {w : World} {g b n : Nat} {rate burst most now t : Int} {x : Acc} (hI : IsQ w g b rate burst most now n (dOf x)) (hx : okX x) (ht : now ≤ t) (ht1 : t ≤ 1125899906842624) (s : ByteArray) :
    Calls Try.prog 25 #[.pointer (some ⟨g, 0, none⟩), .string s, .int .i64 0, .int .i64 t] w fun e w' => ∃ x', e = .returned (.int .i64 0) ∧ IsQ w' g b rate burst most t n (dOf x') ∧ okX x' ∧ KQ w w' g b ∧ ∀ t', t ≤ t' → V rate t' x' = V rate t' x := by
  have HI := Aside0.mk hI
  clear hI
  go_enter Try.func25, Try.ntmps25
  go_wp2_with fail
  refine (goes_calls HI.out.blk HI.out.own HI.out.r0 HI.out.r1 HI.out.n0 HI.out.n1).mono ?_
  rintro e w1 ⟨rfl, hg1, ho1, hk1⟩
  rw [nowF_id ht ht1] at hg1 ho1
  rw [del_dOf] at ho1
  go_wp2_with fail
  go_ret
  exact ⟨_, rfl, ⟨hg1, ho1, HI.out.r0, HI.out.r1, HI.out.b0, HI.out.b1, by have := HI.out.n0; omega, ht1⟩, cut_ok hx, hk1, fun t' h => V_cut hx HI.out.r0 h⟩
theorem left_a {w : World} {g b n : Nat} {rate burst most now t : Int} {x : Acc} (hI : IsQ w g b rate burst most now n (dOf x)) (hx : okX x) (ht : now ≤ t) (ht1 : t ≤ 1125899906842624) :
    Calls Try.prog 27 #[.pointer (some ⟨g, 0, none⟩), .string ⟨#[97]⟩, .int .i64 t] w fun e w' => ∃ x', e = .returned (.int .i64 (burst - V rate t x)) ∧ IsQ w' g b rate burst most t n (dOf x') ∧ okX x' ∧ KQ w w' g b ∧ ∀ t', t ≤ t' → V rate t' x' = V rate t' x := by
  have hr0 := hI.r0
  have hn0 := hI.n0
  refine (left_calls (t := t) hI keyA).mono ?_
  rintro e w' ⟨u, a, hq, hat, rfl, hI', hK⟩
  rw [nowF_id ht ht1] at hat hI' ⊢
  rw [del_dOf] at hat hI'
  have hu : usedF rate t u a = V rate t x := by rw [at_dOf hr0 (by omega) hat, V_cut hx hr0 (Int.le_refl _)]
  rw [hu]
  exact ⟨_, rfl, hI', cut_ok hx, hK, fun t' h => V_cut hx hr0 h⟩
theorem wait_a {w : World} {g b n : Nat} {rate burst most now t k : Int} {x : Acc} (hI : IsQ w g b rate burst most now n (dOf x)) (hx : okX x) (hk : 0 ≤ k) (hk1 : k ≤ burst) (ht : now ≤ t) (ht1 : t ≤ 1125899906842624) :
    Calls Try.prog 26 #[.pointer (some ⟨g, 0, none⟩), .string ⟨#[97]⟩, .int .i64 k, .int .i64 t] w fun e w' => ∃ x', e = .returned (.tuple #[.int .i64 (waitF rate (burst - V rate t x) k).1, .bool (waitF rate (burst - V rate t x) k).2]) ∧ IsQ w' g b rate burst most t n (dOf x') ∧ okX x' ∧ KQ w w' g b ∧ ∀ t', t ≤ t' → V rate t' x' = V rate t' x := by
  have hr0 := hI.r0
  have hn0 := hI.n0
  refine (wait_calls (t := t) hI hk hk1 keyA).mono ?_
  rintro e w' ⟨u, a, hq, hat, rfl, hI', hK⟩
  rw [nowF_id ht ht1] at hat hI' ⊢
  rw [del_dOf] at hat hI'
  have hu : usedF rate t u a = V rate t x := by rw [at_dOf hr0 (by omega) hat, V_cut hx hr0 (Int.le_refl _)]
  rw [hu]
  exact ⟨_, rfl, hI', cut_ok hx, hK, fun t' h => V_cut hx hr0 h⟩
/-- What is waited for is there then, and one tick ahead of it it is not. -/
theorem wait_right {rate burst t k w : Int} {x : Acc} (hx : okX x) (hr0 : 0 < rate) (hk1 : k ≤ burst) (hl : burst - V rate t x < k) (hw : w = Int.tdiv (k - (burst - V rate t x) + rate - 1) rate) :
    1 ≤ w ∧ w ≤ k - (burst - V rate t x) + rate - 1 ∧ burst - V rate (t + (w - 1)) x < k ∧ k ≤ burst - V rate (t + w) x := by
  have hV := V_nonneg (t := t) hx (by omega : 0 ≤ rate)
  rw [Int.tdiv_eq_ediv_of_nonneg (by omega)] at hw
  generalize hd : k - (burst - V rate t x) = d at hw ⊢
  have hd0 : 0 < d := by omega
  have h1 : rate * w ≤ d + rate - 1 := by rw [hw]; exact Int.mul_ediv_self_le (by omega)
  have h2 : d + rate - 1 < rate * w + rate := by rw [hw]; exact Int.lt_mul_ediv_self_add hr0
  have hw1 : 1 ≤ w := by rw [hw]; exact (Int.le_ediv_iff_mul_le hr0).2 (by omega)
  have hw2 : w ≤ d + rate - 1 := by rw [hw]; exact Int.ediv_le_self _ (by omega)
  have e : rate * (w - 1) = rate * w - rate := by rw [Int.mul_sub, Int.mul_one]
  refine ⟨hw1, hw2, ?_, ?_⟩
  · rw [V_later hx (by omega) (by omega), e]
    omega
  · rw [V_later hx (by omega) (by omega)]
    omega
end Go.Proofs.Ytpibjdkenifggaa.QU
