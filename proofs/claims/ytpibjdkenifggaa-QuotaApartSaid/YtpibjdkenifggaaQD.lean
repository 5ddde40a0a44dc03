/- What is gained again is forgotten: maps.DeleteFunc at a quota's map, and goes. -/
import Derived.Test.YtpibjdkenifggaaQU
namespace Go.Proofs.Ytpibjdkenifggaa.QU
open Go.RowKit Go.Maps Go.MapKept Go.ChangeMaps Go.WideElems Go.WideMaps Go.WideShapes Go.Proofs.YtpibjdkenifggaaW.PrintWords Go.Proofs.YtpibjdkenifggaaW.PrintLast Go.Proofs.YtpibjdkenifggaaW.PrintMore
set_option linter.unusedVariables false
set_option linter.unusedSimpArgs false
set_option maxRecDepth 100000
attribute [local go_sem] max2_int min2_int max_two min_two

open Classical in
/-- An entry is taken as it stands. -/
noncomputable def heldQ (v : Value) : Option (DataW Value × List MemPlace) := if ∃ u a, inQ u a ∧ v = .agg #[.int .i64 u, .int .i64 a] then some (.held v, []) else none
theorem heldQ_of {u a : Int} (h : inQ u a) : heldQ (.agg #[.int .i64 u, .int .i64 a]) = some (.held (.agg #[.int .i64 u, .int .i64 a]), []) := if_pos ⟨u, a, h, rfl⟩
theorem heldQ_inv {v : Value} {d : DataW Value} {ps : List MemPlace} (h : heldQ v = some (d, ps)) : ∃ u a, inQ u a ∧ v = .agg #[.int .i64 u, .int .i64 a] ∧ d = .held v := by
  unfold heldQ at h
  split at h
  · rename_i hx
    obtain ⟨u, a, h1, h2⟩ := hx
    injection h with h
    injection h with h3 h4
    exact ⟨u, a, h1, h2, h3.symm⟩
  · cases h
open Classical in
/-- What is forgotten. -/
noncomputable def pdQ (rate now : Int) : Lit → DataW Value → Bool := fun _ d => if ∃ u a, d = .held (.agg #[.int .i64 u, .int .i64 a]) ∧ usedF rate now u a = 0 then true else false
theorem pdQ_of {rate now : Int} {k : Lit} (u a : Int) : pdQ rate now k (.held (.agg #[.int .i64 u, .int .i64 a])) = (usedF rate now u a == 0) := by
  unfold pdQ
  by_cases h : usedF rate now u a = 0
  · rw [if_pos ⟨u, a, rfl, h⟩, h]
    rfl
  · rw [if_neg]
    · simp [h]
    · rintro ⟨u', a', h1, h2⟩
      injection h1 with h1
      injection h1 with h1
      simp at h1
      obtain ⟨rfl, rfl⟩ := h1
      exact h h2
theorem law9 : Keyed Try.prog 9 := string_keyed Try.underlying9
theorem grown_of {W W1 : World} (h : Below W.heap.size W W1) (row : Option Nat) : W.grownBy W1 row := ⟨h.os, h.tape, h.output, h.size, fun k hk _ => h.block k hk⟩
set_option maxHeartbeats 4000000 in
theorem clo_calls {w : World} {g b cb : Nat} {rate burst most now : Int} (hg : QBlk w g b rate burst most now) (hc : w.heap[cb]? = some (.cells #[.pointer (some ⟨g, 0, none⟩)] 49 (0, 0))) (key : Value) (u a : Int) (hq : inQ u a) (hr0 : 0 ≤ rate) (hr1 : rate ≤ 1000) (hn0 : 0 ≤ now) (hn1 : now ≤ 1125899906842624) :
    Calls Try.prog 70 #[key, .agg #[.int .i64 u, .int .i64 a], .pointer (some ⟨cb, 0, none⟩)] w fun e w' => e = .returned (.bool (usedF rate now u a == 0)) ∧ Below w.heap.size w w' := by
  have hg1 : QBlk (w.alloc (.cells #[.int .i64 u, .int .i64 a] 103)) g b rate burst most now := (Below.heap_alloc w _ g (blk_lt hg)).trans hg
  have x0 : (w.alloc (.cells #[.int .i64 u, .int .i64 a] 103)).cell? ⟨cb, 0, none⟩ = some (.pointer (some ⟨g, 0, none⟩)) := (blk_cell ((Below.heap_alloc w (.cells #[.int .i64 u, .int .i64 a] 103) cb (blk_lt hc)).trans hc) 0).trans rfl
  go_enter Try.func70, Try.ntmps70
  go_wp2_with fail
  refine (used_calls hg1 u a hq hr0 hr1 hn0 hn1).mono ?_
  rintro e w' ⟨rfl, hb⟩
  go_wp2_with fail
  go_ret
  exact ⟨rfl, (below_alloc (Below.refl _ _) _).trans (hb.mono (by rw [size_alloc]; omega))⟩
set_option maxHeartbeats 4000000 in
/-- **maps.DeleteFunc at a quota's map.** -/
theorem del_calls {w : World} {g b cb n : Nat} {rate burst most now : Int} {D : DataW Value} (hg : QBlk w g b rate burst most now) (hc : w.heap[cb]? = some (.cells #[.pointer (some ⟨g, 0, none⟩)] 49 (0, 0))) (hown : w.ownsMap Try.prog 9 heldQ b n D) (hr0 : 0 ≤ rate) (hr1 : rate ≤ 1000) (hn0 : 0 ≤ now) (hn1 : now ≤ 1125899906842624) :
    Calls Try.prog 69 #[.map (some b), .func (.func 70) #[] #[.pointer (some ⟨cb, 0, none⟩)]] w fun e w' => e = .returned (.tuple #[]) ∧ w'.ownsMap Try.prog 9 heldQ b n (Lib.deleteFuncD (pdQ rate now) D) ∧ w.grownBy w' (some b) := by
  obtain ⟨es0, rfl, hap, hkeys⟩ := hown.entries law9
  have hgb : g ≠ b := by
    rintro rfl
    obtain ⟨es, clock, hb, _⟩ := hown
    rw [hg] at hb
    cases hb
  have hcb : cb ≠ b := by
    rintro rfl
    obtain ⟨es, clock, hb, _⟩ := hown
    rw [hc] at hb
    cases hb
  go_enter Try.func69, Try.ntmps69
  go_wp2_with (first
    | (at_range; refine wpList_range_own _ rfl _ 98 rfl 9 103 law9 Try.underlying98 heldQ b n _ rfl hown ?_; intro w0 hrg0 hg0 hs0)
    | fail)
  go_frame
  go_loopw [8] (fun _ wr => ∃ (left : Lit → Bool) (cnt : Nat), wr.ranges Try.prog 9 heldQ b w.heap.size n (Fk (pdQ rate now) es0 left) left cnt ∧ w.grownBy wr (some b))
    (fun _ wr => wr.rangeLeft b w.heap.size)
  case atStart => exact ⟨_, _, by rw [Fk_start hkeys]; exact hrg0, hg0.but _⟩
  case round =>
    obtain ⟨left, cnt, hrg, hgw⟩ := hrel
    go_wp2_with (first
      | (at_next; refine wpList_next_ranges _ rfl _ rfl 9 law9 heldQ id id (fun key _ _ => ⟨key, rfl⟩) (fun v _ _ => ⟨v, rfl⟩) b w.heap.size n _ _ _ rfl hrg ?_ ?_)
      | fail)
    · intro _ hl0
      go_wp2_with fail
      go_end0
      exact ⟨rfl, by rw [← Fk_end hl0]; exact hrg.owns, hgw⟩
    · intro x c kl yd yp w1 cnt1 hkey hlx hv hat hrg1 hlt hg1 hs1 hen
      have hgw1 := hgw.andThen hg1 (fun j hj => by cases hj; exact Or.inl (Nat.le_refl _))
      obtain ⟨u, a, hq, rfl, rfl⟩ := heldQ_inv hv
      have hbl := hrg1.owns.lt
      have hrl := hrg1.lt
      have hG1 : QBlk w1 g b rate burst most now := (hgw1.block g (blk_lt hg) (by simpa using hgb)).trans hg
      have hC1 := (hgw1.block cb (blk_lt hc) (by simpa using hcb)).trans hc
      have hG2 : QBlk (w1.alloc (.cells #[.int .i64 u, .int .i64 a] 103)) g b rate burst most now := (Below.heap_alloc w1 _ g (blk_lt hG1)).trans hG1
      have hC2 := (Below.heap_alloc w1 (.cells #[.int .i64 u, .int .i64 a] 103) cb (blk_lt hC1)).trans hC1
      have hpd := pdQ_of (rate := rate) (now := now) (k := kl) u a
      have hgA : w1.grownBy (w1.alloc (.cells #[.int .i64 u, .int .i64 a] 103)) none := grown_of (below_alloc (Below.refl _ _) _) _
      have HG2 := Aside0.mk hG2
      have HC2 := Aside0.mk hC2
      clear hG1 hG2 hC1 hC2
      go_wp2_with fail
      refine (clo_calls HG2.out HC2.out x u a hq hr0 hr1 hn0 hn1).mono ?_
      rintro e w2 ⟨rfl, hb2⟩
      have hg2 : w1.grownBy w2 none := grown_of ((below_alloc (Below.refl _ _) _).trans (hb2.mono (by rw [size_alloc]; omega))) _
      have hrg2 := hrg1.kept hg2 (by simp) (by simp)
      clear hb2 hgA
      cases hp : (usedF rate now u a == 0) <;> rw [hp] at hpd
      · go_wp2_with fail
        go_roundw
        case rel => exact ⟨_, cnt1, by rw [← Fk_stays hap (law9.key hkey) hlx hpd hat]; exact hrg2, hgw1.andThen hg2 (fun j hj => by cases hj)⟩
        case measure => rw [hrg2.left_eq, hrg.left_eq]; exact hlt
      · go_wp2_with (first
          | (at_delete; refine wpList_delete_ranges _ rfl _ _ 98 9 rfl 103 law9 Try.underlying98 heldQ b w.heap.size n _ _ _ rfl hrg2 _ _ rfl hkey ?_; intro w3 cnt3 hrg3 hle hturn; go_frame)
          | fail)
        rw [strike_twice] at hrg3
        go_roundw
        case rel => exact ⟨_, cnt3, by rw [← Fk_struck hap (law9.key hkey) hlx hpd hat]; exact hrg3, (hgw1.andThen hg2 (fun j hj => by cases hj)).andThen hturn.grown (fun j hj => by cases hj; exact Or.inr rfl)⟩
        case measure => rw [hrg3.left_eq, hrg.left_eq]; omega
/-- Time, as it goes by. -/
def nowF (now n : Int) : Int := if 1125899906842624 < (if now < n then n else now) then 1125899906842624 else (if now < n then n else now)
/-- Whatever is neither of two blocks stays. -/
def KQ (w w' : World) (g b : Nat) : Prop := w'.os = w.os ∧ w'.tape = w.tape ∧ w'.output = w.output ∧ w.heap.size ≤ w'.heap.size ∧ ∀ k, k < w.heap.size → k ≠ g → k ≠ b → w'.heap[k]? = w.heap[k]?
theorem KQ.below {w w' : World} {g b B : Nat} (h : KQ w w' g b) (hg : B ≤ g) (hb : B ≤ b) (hw : B ≤ w.heap.size) : Below B w w' := ⟨h.1, h.2.1, h.2.2.1, h.2.2.2.1, fun k hk => h.2.2.2.2 k (by omega) (by omega) (by omega)⟩
theorem KQ.of {w w' : World} {g b : Nat} (h : Below w.heap.size w w') : KQ w w' g b := ⟨h.os, h.tape, h.output, h.size, fun k hk _ _ => h.block k hk⟩
theorem KQ.trans {w w' w'' : World} {g b : Nat} (h : KQ w w' g b) (h' : KQ w' w'' g b) : KQ w w'' g b := ⟨h'.1.trans h.1, h'.2.1.trans h.2.1, h'.2.2.1.trans h.2.2.1, Nat.le_trans h.2.2.2.1 h'.2.2.2.1, fun k hk h1 h2 => (h'.2.2.2.2 k (Nat.lt_of_lt_of_le hk h.2.2.2.1) h1 h2).trans (h.2.2.2.2 k hk h1 h2)⟩
set_option maxHeartbeats 4000000 in
theorem goes_calls {w : World} {g b n : Nat} {rate burst most now t : Int} {D : DataW Value} (hg : QBlk w g b rate burst most now) (hown : w.ownsMap Try.prog 9 heldQ b n D) (hr0 : 0 ≤ rate) (hr1 : rate ≤ 1000) (hn0 : 0 ≤ now) (hn1 : now ≤ 1125899906842624) :
    Calls Try.prog 51 #[.pointer (some ⟨g, 0, none⟩), .int .i64 t] w fun e w' => e = .returned (.tuple #[]) ∧ QBlk w' g b rate burst most (nowF now t) ∧ w'.ownsMap Try.prog 9 heldQ b n (Lib.deleteFuncD (pdQ rate (nowF now t)) D) ∧ KQ w w' g b := by
  have hlt := blk_lt hg
  obtain ⟨m, hm⟩ : ∃ m, nowF now t = m := ⟨_, rfl⟩
  rw [hm]
  have hm0 : 0 ≤ m ∧ m ≤ 1125899906842624 := by rw [← hm]; unfold nowF; split <;> split at * <;> omega
  have hgb : g ≠ b := by
    rintro rfl
    obtain ⟨es, clock, hb, _⟩ := hown
    rw [hg] at hb
    cases hb
  go_enter Try.func51, Try.ntmps51
  go_wp2_with fail
  generalize hW : w.alloc (Obj.cells #[Value.pointer (some ⟨g, 0, none⟩)] 49) = W
  have bq : W.heap[w.heap.size]? = some (Obj.cells #[Value.pointer (some ⟨g, 0, none⟩)] 49) := by rw [← hW]; exact blk_new _ _
  have bg : QBlk W g b rate burst most now := by rw [← hW]; exact (Below.heap_alloc w _ g hlt).trans hg
  have HB : Aside0 (Below w.heap.size w W) := ⟨by rw [← hW]; exact below_alloc (Below.refl _ _) _⟩
  have HO : Aside0 (W.ownsMap Try.prog 9 heldQ b n D) := by
    obtain ⟨es, clock, hb, F, hs, hD⟩ := hown
    exact ⟨es, clock, (HB.out.block b (blk_lt hb)).trans hb, F, hs, hD⟩
  clear hW
  have x3 : W.cell? ⟨g, 3, none⟩ = some (.int .i64 now) := (blk_cell bg 3).trans rfl
  have y0 : W.cell? ⟨w.heap.size, 0, none⟩ = some (.pointer (some ⟨g, 0, none⟩)) := (blk_cell bq 0).trans rfl
  have z3 : W.frozen? ⟨g, 3, none⟩ = false := blk_frozen bg 3
  go_region
  rw [show (if (1125899906842624 : Int) < (if now < t then t else now) then (1125899906842624 : Int) else (if now < t then t else now)) = m from hm]
  generalize (if now < t then t else now) = m0
  have bg2 : QBlk (W.setCell ⟨g, 3, none⟩ (.int .i64 m)).drew g b rate burst most m := blk_set bg 3 _
  have bq2 : (W.setCell ⟨g, 3, none⟩ (.int .i64 m)).drew.heap[w.heap.size]? = some (Obj.cells #[Value.pointer (some ⟨g, 0, none⟩)] 49) := blk_far bq (by simp; omega) _
  have hk : KQ W (W.setCell ⟨g, 3, none⟩ (.int .i64 m)).drew g b := ⟨rfl, rfl, rfl, by simp [World.setCell, World.drew], fun k _ h1 _ => Below.heap_setCell W ⟨g, 3, none⟩ _ k h1⟩
  have HO2 : Aside0 ((W.setCell ⟨g, 3, none⟩ (.int .i64 m)).drew.ownsMap Try.prog 9 heldQ b n D) := by
    obtain ⟨es, clock, hb, F, hs, hD⟩ := HO.out
    exact ⟨es, clock, (Below.heap_setCell W ⟨g, 3, none⟩ (.int .i64 m) b (by simpa using Ne.symm hgb)).trans hb, F, hs, hD⟩
  generalize (W.setCell ⟨g, 3, none⟩ (.int .i64 m)).drew = W2 at bg2 bq2 hk HO2 ⊢
  have v4 : W2.cell? ⟨g, 4, none⟩ = some (.map (some b)) := (blk_cell bg2 4).trans rfl
  have v0 : W2.cell? ⟨w.heap.size, 0, none⟩ = some (.pointer (some ⟨g, 0, none⟩)) := (blk_cell bq2 0).trans rfl
  clear bg bq x3 y0 z3
  have HG2 := Aside0.mk bg2
  have HQ2 := Aside0.mk bq2
  clear bg2 bq2
  go_wp2_with fail
  refine (del_calls HG2.out HQ2.out HO2.out hr0 hr1 hm0.1 hm0.2).mono ?_
  rintro e w3 ⟨rfl, ho3, hg3⟩
  go_wp2_with fail
  go_end0
  exact ⟨rfl, (hg3.block g (blk_lt HG2.out) (by simpa using hgb)).trans HG2.out, ho3, ((KQ.of HB.out).trans hk).trans ⟨hg3.os, hg3.tape, hg3.output, hg3.size, fun k h1 _ h3 => hg3.block k h1 (by simpa using h3)⟩⟩
end Go.Proofs.Ytpibjdkenifggaa.QU
