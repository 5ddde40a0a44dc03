/- New, Left, Use, Wait of a quota, told by its datum. -/
import Derived.Test.YtpibjdkenifggaaQD
namespace Go.Proofs.Ytpibjdkenifggaa.QU
open Go.RowKit Go.Maps Go.MapKept Go.ChangeMaps Go.WideElems Go.WideMaps Go.WideShapes Go.Proofs.YtpibjdkenifggaaW.PrintWords Go.Proofs.YtpibjdkenifggaaW.PrintLast Go.Proofs.YtpibjdkenifggaaW.PrintMore
set_option linter.unusedVariables false
set_option linter.unusedSimpArgs false
set_option maxRecDepth 100000

def zero103 : Value := .agg #[.int .i64 0, .int .i64 0]
theorem zeroV (w : World) : (zeroValue 103).run Try.prog w = .ok zero103 w := by kernel_rfl
theorem heldZ : heldQ zero103 = some (.held zero103, []) := heldQ_of ⟨by decide, by decide, by decide, by decide⟩
/-- The state. -/
structure IsQ (w : World) (g b : Nat) (rate burst most now : Int) (n : Nat) (D : DataW Value) : Prop where
  blk : QBlk w g b rate burst most now
  own : w.ownsMap Try.prog 9 heldQ b n D
  r0 : 0 ≤ rate
  r1 : rate ≤ 1000
  b0 : 0 ≤ burst
  b1 : burst ≤ 1099511627776
  n0 : 0 ≤ now
  n1 : now ≤ 1125899906842624
theorem ownsB {W W1 : World} {b N : Nat} {D : DataW Value} (h : W.ownsMap Try.prog 9 heldQ b N D) (hw : Below W.heap.size W W1) : W1.ownsMap Try.prog 9 heldQ b N D := by
  obtain ⟨es, clock, hb, F, hs, hD⟩ := h
  exact ⟨es, clock, (hw.block b (blk_lt hb)).trans hb, F, hs, hD⟩
theorem IsQ.below {w w1 : World} {g b n : Nat} {rate burst most now : Int} {D : DataW Value} (h : IsQ w g b rate burst most now n D) (hb : Below w.heap.size w w1) : IsQ w1 g b rate burst most now n D :=
  ⟨(hb.block g (blk_lt h.blk)).trans h.blk, ownsB h.own hb, h.r0, h.r1, h.b0, h.b1, h.n0, h.n1⟩
theorem nowF_in {now t : Int} (h0 : 0 ≤ now) (h1 : now ≤ 1125899906842624) : 0 ≤ nowF now t ∧ nowF now t ≤ 1125899906842624 := by unfold nowF; split <;> split at * <;> omega
theorem usedF_in {rate now u a : Int} (hq : inQ u a) (hr0 : 0 ≤ rate) (hr1 : rate ≤ 1000) (hn0 : 0 ≤ now) (hn1 : now ≤ 1125899906842624) : -1125899906842624000 ≤ usedF rate now u a ∧ usedF rate now u a ≤ 1125904304889135104 := by
  obtain ⟨q1, q2, q3, q4⟩ := hq
  have := mul_in rate (now - a) hr0 hr1 (by omega) (by omega)
  unfold usedF
  split <;> omega
/-- What a look-up gives. -/
theorem look_at {w : World} {b n : Nat} {D : DataW Value} (hown : w.ownsMap Try.prog 9 heldQ b n D) {s : ByteArray} {kl : Lit} (hkey : keyOf Try.prog 9 (.string s) = some kl) :
    ∃ u a, inQ u a ∧ D.atKey kl (.held zero103) = .held (.agg #[.int .i64 u, .int .i64 a]) ∧ ∀ W1, Below w.heap.size w W1 → (Instr.lookup 98 (.map (some b)) (.string s) false).run Try.prog W1 = .ok (.agg #[.int .i64 u, .int .i64 a]) W1 ∧ (Instr.lookup 98 (.map (some b)) (.string s) true).run Try.prog W1 = .ok (.tuple #[.agg #[.int .i64 u, .int .i64 a], .bool (Maps.has D kl)]) W1 := by
  obtain ⟨v, ps, hr, hv⟩ := hown.look_ok law9 Try.underlying98 (zeroV w) heldZ hkey
  obtain ⟨u, a, hq, rfl, hd⟩ := heldQ_inv hv
  refine ⟨u, a, hq, hd, fun W1 hw => ?_⟩
  obtain ⟨v1, ps1, hr1, hv1⟩ := (ownsB hown hw).look_ok law9 Try.underlying98 (zeroV W1) heldZ hkey
  obtain ⟨v2, ps2, hr2, hv2⟩ := (ownsB hown hw).lookup law9 Try.underlying98 (zeroV W1) heldZ hkey
  obtain ⟨u1, a1, _, rfl, hd1⟩ := heldQ_inv hv1
  obtain ⟨u2, a2, _, rfl, hd2⟩ := heldQ_inv hv2
  have e1 := hd.symm.trans hd1
  have e2 := hd.symm.trans hd2
  injection e1 with e1
  injection e2 with e2
  rw [hr1, hr2, ← e1, ← e2]
  exact ⟨rfl, rfl⟩
set_option maxHeartbeats 4000000 in
theorem left_calls {w : World} {g b n : Nat} {rate burst most now t : Int} {D : DataW Value} (hI : IsQ w g b rate burst most now n D) {s : ByteArray} {kl : Lit} (hkey : keyOf Try.prog 9 (.string s) = some kl) :
    Calls Try.prog 27 #[.pointer (some ⟨g, 0, none⟩), .string s, .int .i64 t] w fun e w' => ∃ u a, inQ u a ∧ (Lib.deleteFuncD (pdQ rate (nowF now t)) D).atKey kl (.held zero103) = .held (.agg #[.int .i64 u, .int .i64 a]) ∧
      e = .returned (.int .i64 (burst - usedF rate (nowF now t) u a)) ∧ IsQ w' g b rate burst most (nowF now t) n (Lib.deleteFuncD (pdQ rate (nowF now t)) D) ∧ KQ w w' g b := by
  have HI := Aside0.mk hI
  have hm0 := nowF_in (t := t) hI.n0 hI.n1
  clear hI
  generalize hm : nowF now t = m at hm0 ⊢
  go_enter Try.func27, Try.ntmps27
  go_wp2_with fail
  refine (goes_calls HI.out.blk HI.out.own HI.out.r0 HI.out.r1 HI.out.n0 HI.out.n1).mono ?_
  rintro e w1 ⟨rfl, hg1, ho1, hk1⟩
  rw [hm] at hg1 ho1
  obtain ⟨u, a, hq, hat, hlook⟩ := look_at ho1 hkey
  have HK1 := Aside0.mk hk1
  have HG1 := Aside0.mk hg1
  have HO1 := Aside0.mk ho1
  have x1 : w1.cell? ⟨g, 1, none⟩ = some (.int .i64 burst) := (blk_cell hg1 1).trans rfl
  have x4 : w1.cell? ⟨g, 4, none⟩ = some (.map (some b)) := (blk_cell hg1 4).trans rfl
  have hl0 := (hlook w1 (Below.refl _ _)).1
  have hl1 := (hlook w1.drew (Below.refl _ _).drew).1
  have hu := usedF_in (rate := rate) (now := m) hq HI.out.r0 HI.out.r1 hm0.1 hm0.2
  have hb0 := HI.out.b0
  have hb1 := HI.out.b1
  have HQ := Aside0.mk hq
  have hcall : ∀ w', Below w1.heap.size w1 w' → Calls Try.prog 52 #[.pointer (some ⟨g, 0, none⟩), .agg #[.int .i64 u, .int .i64 a]] w' fun e w'' => e = .returned (.int .i64 (usedF rate m u a)) ∧ Below w'.heap.size w' w'' := fun w' hw => used_calls ((hw.block g (blk_lt HG1.out)).trans HG1.out) u a HQ.out HI.out.r0 HI.out.r1 hm0.1 hm0.2
  have HC := Aside0.mk hcall
  generalize hmu : usedF rate m u a = uu at HC hu ⊢
  have hBd := below_drew (Below.refl w1.heap.size w1)
  clear hg1 ho1 hk1 hlook hq hcall
  go_wp2_with fail
  go_region_held3 (fun w' => w'.cell? ⟨g, 1, none⟩ = some (.int .i64 burst) ∧ w'.cell? ⟨g, 4, none⟩ = some (.map (some b)))
      (first | exact ⟨x1, x4⟩ | exact ⟨(hw2.cell (p := ⟨g, 1, none⟩) (blk_lt HG1.out)).trans x1, (hw2.cell (p := ⟨g, 4, none⟩) (blk_lt HG1.out)).trans x4⟩)
      (first | (go_at_call 52; refine (HC.out _ hBd).mono ?_; rintro e2 w2 ⟨rfl, hw2⟩))
  have hs : IntKind.i64.wrap (burst - uu) = burst - uu := IntWalk.i64_in _ (by omega)
  rw [hs]
  go_wp2_with fail
  go_ret
  exact ⟨u, a, HQ.out, hat, by rw [hmu]; rfl, ⟨(hw2.block g (blk_lt HG1.out)).trans HG1.out, ownsB HO1.out (hBd.trans hw2), HI.out.r0, HI.out.r1, hb0, hb1, hm0.1, hm0.2⟩, HK1.out.trans (KQ.of (hBd.trans hw2))⟩
set_option maxHeartbeats 4000000 in
theorem new_calls {w : World} {rate burst most : Int} (h0 : 0 ≤ rate) (h1 : rate ≤ 1000) (h2 : 1 ≤ burst) (h3 : burst ≤ 1099511627776) (h4 : 1 ≤ most) (h5 : most ≤ 1000) :
    Calls Try.prog 23 #[.int .i64 rate, .int .i64 burst, .int .i64 most] w fun e w' => e = .returned (.tuple #[.pointer (some ⟨w.heap.size + 1, 0, none⟩), .int .i64 0]) ∧ IsQ w' (w.heap.size + 1) w.heap.size rate burst most 0 0 (.map []) ∧ Below w.heap.size w w' := by
  have hmm := @run_makeMap Try.prog
  have c := decide_eq_false (show ¬ rate < 0 by omega)
  have c1 := decide_eq_false (show ¬ rate > 1073741824 by omega)
  have c2 := decide_eq_false (show ¬ burst < 1 by omega)
  have c3 := decide_eq_false (show ¬ burst > 1099511627776 by omega)
  have c4 := decide_eq_false (show ¬ most < 1 by omega)
  have c5 := decide_eq_false (show ¬ most > 1000 by omega)
  go_enter Try.func23, Try.ntmps23
  go_wp2
  all_goals first | omega | skip
  go_ret2
  have hg := blk_new (w.alloc (.map #[] 0)) (.cells #[.int .i64 rate, .int .i64 burst, .int .i64 most, .int .i64 0, .map (some w.heap.size)] 100 (0, 0))
  rw [size_alloc] at hg
  have hown := World.ownsMap_made (H := Value) w Try.prog 9 heldQ
  exact ⟨rfl, ⟨hg, ownsB hown (below_alloc (Below.refl _ _) _), h0, h1, by omega, h3, by decide, by decide⟩, below_alloc (below_alloc (Below.refl _ _) _) _⟩
theorem new_bad {w : World} : Calls Try.prog 23 #[.int .i64 1, .int .i64 0, .int .i64 10] w fun e w' => e = .returned (.tuple #[.pointer none, .int .i64 1]) ∧ w' = w := by
  go_enter Try.func23, Try.ntmps23
  go_wp2
  go_ret2
  exact ⟨rfl, rfl⟩
theorem usedF_nonneg {rate now u a : Int} (hq : inQ u a) (hr0 : 0 ≤ rate) : 0 ≤ usedF rate now u a := by
  obtain ⟨q1, q2, q3, q4⟩ := hq
  unfold usedF
  split
  · omega
  · rename_i h
    by_cases hr : 0 < rate
    · have h1 : now - a < Int.tdiv (u + rate - 1) rate := by
        by_cases h2 : now - a ≥ Int.tdiv (u + rate - 1) rate
        · exact absurd ⟨hr, h2⟩ h
        · omega
      rw [Int.tdiv_eq_ediv_of_nonneg (by omega)] at h1
      have h3 : rate * ((u + rate - 1) / rate) ≤ u + rate - 1 := Int.mul_ediv_self_le (by omega)
      have h4 : rate * (now - a) ≤ rate * ((u + rate - 1) / rate - 1) := Int.mul_le_mul_of_nonneg_left (by omega) hr0
      have h5 : rate * ((u + rate - 1) / rate - 1) = rate * ((u + rate - 1) / rate) - rate := by rw [Int.mul_sub, Int.mul_one]
      omega
    · obtain rfl : rate = 0 := by omega
      omega
/-- What Use leaves. -/
def UseR (burst most rate m k u a : Int) (n : Nat) (kl : Lit) (D1 : DataW Value) (n' : Nat) (D' : DataW Value) (rv : Int) : Prop :=
  (k > burst - usedF rate m u a ∧ rv = 15 ∧ n' = n ∧ D' = D1) ∨
  (¬ k > burst - usedF rate m u a ∧ Maps.has D1 kl = false ∧ (Maps.size D1 : Int) ≥ most ∧ rv = 15 ∧ n' = n ∧ D' = D1) ∨
  (¬ k > burst - usedF rate m u a ∧ (Maps.has D1 kl = true ∨ ¬ (Maps.size D1 : Int) ≥ most) ∧ rv = 0 ∧ n' = n + 1 ∧ D' = D1.put kl (.held (.agg #[.int .i64 (usedF rate m u a + k), .int .i64 m])))
set_option maxHeartbeats 4000000 in
theorem use_calls {w : World} {g b n : Nat} {rate burst most now t k : Int} {D : DataW Value} (hI : IsQ w g b rate burst most now n D) (hn : n < 1000000) (hk : 0 < k) (hk1 : k ≤ 4398046511104) {s : ByteArray} {kl : Lit} (hkey : keyOf Try.prog 9 (.string s) = some kl) :
    Calls Try.prog 25 #[.pointer (some ⟨g, 0, none⟩), .string s, .int .i64 k, .int .i64 t] w fun e w' => ∃ u a rv n' D', inQ u a ∧ (Lib.deleteFuncD (pdQ rate (nowF now t)) D).atKey kl (.held zero103) = .held (.agg #[.int .i64 u, .int .i64 a]) ∧
      e = .returned (.int .i64 rv) ∧ UseR burst most rate (nowF now t) k u a n kl (Lib.deleteFuncD (pdQ rate (nowF now t)) D) n' D' rv ∧ IsQ w' g b rate burst most (nowF now t) n' D' ∧ KQ w w' g b := by
  have HI := Aside0.mk hI
  have hm0 := nowF_in (t := t) hI.n0 hI.n1
  clear hI
  generalize hm : nowF now t = m at hm0 ⊢
  go_enter Try.func25, Try.ntmps25
  go_wp2_with fail
  refine (goes_calls HI.out.blk HI.out.own HI.out.r0 HI.out.r1 HI.out.n0 HI.out.n1).mono ?_
  rintro e w1 ⟨rfl, hg1, ho1, hk1⟩
  rw [hm] at hg1 ho1
  obtain ⟨u, a, hq, hat, hlook⟩ := look_at ho1 hkey
  have HK1 := Aside0.mk hk1
  have HG1 := Aside0.mk hg1
  have HO1 := Aside0.mk ho1
  have HAT := Aside0.mk hat
  have x4 : w1.cell? ⟨g, 4, none⟩ = some (.map (some b)) := (blk_cell hg1 4).trans rfl
  have hl0 := (hlook w1 (Below.refl _ _)).2
  have hu := usedF_nonneg (rate := rate) (now := m) hq HI.out.r0
  have hu2 := usedF_in (rate := rate) (now := m) hq HI.out.r0 HI.out.r1 hm0.1 hm0.2
  have hb0 := HI.out.b0
  have hb1 := HI.out.b1
  have HQ := Aside0.mk hq
  generalize hD1 : Lib.deleteFuncD (pdQ rate m) D = D1 at HO1 HAT hl0
  clear hg1 ho1 hk1 hlook hq hat
  generalize hhas : Maps.has D1 kl = known at hl0
  go_wp2_with fail
  refine (used_calls (b := b) (burst := burst) (most := most) ((Below.heap_alloc w1 _ g (blk_lt HG1.out)).trans HG1.out) u a HQ.out HI.out.r0 HI.out.r1 hm0.1 hm0.2).mono ?_
  rintro e w2 ⟨rfl, hb2⟩
  have hB2 : Below w1.heap.size w1 w2 := (below_alloc (Below.refl _ _) _).trans (hb2.mono (by rw [size_alloc]; omega))
  have HB2 := Aside0.mk hB2
  have HG2 : Aside0 (QBlk w2 g b rate burst most m) := ⟨(hB2.block g (blk_lt HG1.out)).trans HG1.out⟩
  have HO2 : Aside0 (w2.ownsMap Try.prog 9 heldQ b n D1) := ⟨ownsB HO1.out hB2⟩
  clear hb2 hB2 x4 hl0
  generalize hmu : usedF rate m u a = uu at hu hu2 ⊢
  have y1 : w2.cell? ⟨g, 1, none⟩ = some (.int .i64 burst) := (blk_cell HG2.out 1).trans rfl
  have y2 : w2.cell? ⟨g, 2, none⟩ = some (.int .i64 most) := (blk_cell HG2.out 2).trans rfl
  have y3 : w2.cell? ⟨g, 3, none⟩ = some (.int .i64 m) := (blk_cell HG2.out 3).trans rfl
  have y4 : w2.cell? ⟨g, 4, none⟩ = some (.map (some b)) := (blk_cell HG2.out 4).trans rfl
  have hlen := HO2.out.len Try.underlying98 3
  have hs1 : IntKind.i64.wrap (burst - uu) = burst - uu := IntWalk.i64_in _ (by omega)
  by_cases hgt : k > burst - uu
  · go_wp2_with fail
    go_ret
    exact ⟨u, a, 15, n, D1, HQ.out, by rw [hD1]; exact HAT.out, rfl, .inl ⟨by rw [hmu]; exact hgt, rfl, rfl, hD1.symm⟩, ⟨HG2.out, HO2.out, HI.out.r0, HI.out.r1, hb0, hb1, hm0.1, hm0.2⟩, HK1.out.trans (KQ.of HB2.out)⟩
  have hq2 : inQ (uu + k) m := ⟨by omega, by omega, hm0.1, hm0.2⟩
  have hs2 : IntKind.i64.wrap (uu + k) = uu + k := IntWalk.i64_in _ (by omega)
  have HS2 := Aside0.mk hs2
  obtain ⟨w3, hup, ho3, hg3⟩ := (ownsB HO2.out (below_drew (below_drew (Below.refl _ w2)))).update law9 Try.underlying98 (Nat.lt_of_lt_of_le hn (by unfold maxLen; omega)) hkey (heldQ_of hq2)
  have hg3' : w2.grownBy w3 (some b) := ⟨hg3.os, hg3.tape, hg3.output, hg3.size, hg3.block⟩
  have hgb : g ≠ b := by
    rintro rfl
    obtain ⟨es, clock, hb, _⟩ := HO2.out
    have := HG2.out
    unfold QBlk at this
    rw [this] at hb
    cases hb
  have hI3 : IsQ w3 g b rate burst most m (n + 1) (D1.put kl (.held (.agg #[.int .i64 (uu + k), .int .i64 m]))) := ⟨(hg3'.block g (blk_lt HG2.out) (by simpa using hgb)).trans HG2.out, ho3, HI.out.r0, HI.out.r1, hb0, hb1, hm0.1, hm0.2⟩
  have hK3 : KQ w w3 g b := (HK1.out.trans (KQ.of HB2.out)).trans ⟨hg3'.os, hg3'.tape, hg3'.output, hg3'.size, fun k h1 _ h3 => hg3'.block k h1 (by simpa using h3)⟩
  have HE := Aside0.mk (And.intro hI3 hK3)
  clear hI3 hK3 hg3 hg3' ho3 hgb hq2 hu2
  cases known
  · go_wp2_with fail
    have hlen1 := (ownsB HO2.out (below_drew (Below.refl _ w2))).len Try.underlying98 3
    go_region
    go_wp2_with fail
    · go_ret
      exact ⟨u, a, 15, n, D1, HQ.out, by rw [hD1]; exact HAT.out, rfl, .inr (.inl ⟨by rw [hmu]; omega, by rw [hD1]; exact hhas, by rw [hD1]; omega, rfl, rfl, hD1.symm⟩), ⟨HG2.out, ownsB HO2.out (below_drew (Below.refl _ w2)), HI.out.r0, HI.out.r1, hb0, hb1, hm0.1, hm0.2⟩, HK1.out.trans (KQ.of (below_drew HB2.out))⟩
    · have hs2 := HS2.out
      go_region
      go_wp2_with fail
      go_ret
      exact ⟨u, a, 0, n + 1, _, HQ.out, by rw [hD1]; exact HAT.out, rfl, .inr (.inr ⟨by rw [hmu]; omega, .inr (by rw [hD1]; omega), rfl, rfl, by rw [hD1, hmu]⟩), HE.out.1, HE.out.2⟩
  · go_wp2_with fail
    go_region
    go_wp2_with fail
    have hs2 := HS2.out
    go_region
    go_wp2_with fail
    go_ret
    exact ⟨u, a, 0, n + 1, _, HQ.out, by rw [hD1]; exact HAT.out, rfl, .inr (.inr ⟨by rw [hmu]; omega, .inl (by rw [hD1]; exact hhas), rfl, rfl, by rw [hD1, hmu]⟩), HE.out.1, HE.out.2⟩
/-- What Wait tells. -/
def waitF (rate left k : Int) : Int × Bool := if k ≤ left then (0, true) else if rate = 0 then (0, false) else (Int.tdiv (k - left + rate - 1) rate, true)
set_option maxHeartbeats 4000000 in
theorem wait_calls {w : World} {g b n : Nat} {rate burst most now t k : Int} {D : DataW Value} (hI : IsQ w g b rate burst most now n D) (hk : 0 ≤ k) (hk1 : k ≤ burst) {s : ByteArray} {kl : Lit} (hkey : keyOf Try.prog 9 (.string s) = some kl) :
    Calls Try.prog 26 #[.pointer (some ⟨g, 0, none⟩), .string s, .int .i64 k, .int .i64 t] w fun e w' => ∃ u a, inQ u a ∧ (Lib.deleteFuncD (pdQ rate (nowF now t)) D).atKey kl (.held zero103) = .held (.agg #[.int .i64 u, .int .i64 a]) ∧
      e = .returned (.tuple #[.int .i64 (waitF rate (burst - usedF rate (nowF now t) u a) k).1, .bool (waitF rate (burst - usedF rate (nowF now t) u a) k).2]) ∧ IsQ w' g b rate burst most (nowF now t) n (Lib.deleteFuncD (pdQ rate (nowF now t)) D) ∧ KQ w w' g b := by
  have HI := Aside0.mk hI
  have hm0 := nowF_in (t := t) hI.n0 hI.n1
  clear hI
  generalize hm : nowF now t = m at hm0 ⊢
  go_enter Try.func26, Try.ntmps26
  go_wp2_with fail
  refine (left_calls HI.out hkey).mono ?_
  rintro e w1 ⟨u, a, hq, hat, rfl, hI1, hk1⟩
  rw [hm] at hat hI1
  rw [hm]
  have HI1 := Aside0.mk hI1
  have HK1 := Aside0.mk hk1
  have x0 : w1.cell? ⟨g, 0, none⟩ = some (.int .i64 rate) := (blk_cell hI1.blk 0).trans rfl
  have x1 : w1.cell? ⟨g, 1, none⟩ = some (.int .i64 burst) := (blk_cell hI1.blk 1).trans rfl
  have hu := usedF_nonneg (rate := rate) (now := m) hq hI1.r0
  have hu2 := usedF_in (rate := rate) (now := m) hq hI1.r0 hI1.r1 hm0.1 hm0.2
  have hr0 := hI1.r0
  have hr1 := hI1.r1
  have hb1 := hI1.b1
  have HQ := Aside0.mk hq
  have HAT := Aside0.mk hat
  clear hI1 hk1 hq hat
  generalize hmu : burst - usedF rate m u a = left
  have hl : burst - 1125904304889135104 ≤ left ∧ left ≤ burst := by omega
  clear hu hu2
  by_cases h1 : k ≤ left
  · go_wp2_with fail
    go_ret2
    exact ⟨u, a, HQ.out, HAT.out, by rw [hmu]; unfold waitF; rw [if_pos h1]; rfl, HI1.out, HK1.out⟩
  by_cases h2 : rate = 0
  · subst h2
    go_wp2_with fail
    go_ret2
    exact ⟨u, a, HQ.out, HAT.out, by rw [hmu]; unfold waitF; rw [if_neg (by omega), if_pos rfl]; rfl, HI1.out, HK1.out⟩
  have hrb : (rate == 0) = false := by simpa using h2
  have s1 : IntKind.i64.wrap (k - left) = k - left := IntWalk.i64_in _ (by omega)
  have s2 : IntKind.i64.wrap (k - left + rate) = k - left + rate := IntWalk.i64_in _ (by omega)
  have s3 : IntKind.i64.wrap (k - left + rate - 1) = k - left + rate - 1 := IntWalk.i64_in _ (by omega)
  have hq0 : 0 ≤ Int.tdiv (k - left + rate - 1) rate ∧ Int.tdiv (k - left + rate - 1) rate ≤ k - left + rate - 1 := ⟨Int.tdiv_nonneg (by omega) (by omega), by rw [Int.tdiv_eq_ediv_of_nonneg (by omega)]; exact Int.ediv_le_self _ (by omega)⟩
  go_wp2_with fail
  go_region
  go_wp2_with fail
  go_ret2
  exact ⟨u, a, HQ.out, HAT.out, by rw [hmu]; unfold waitF; rw [if_neg (by omega : ¬ k ≤ left), if_neg h2]; rfl, HI1.out.below (below_drew (Below.refl _ _)), HK1.out.trans (KQ.of (below_drew (Below.refl _ _)))⟩
end Go.Proofs.Ytpibjdkenifggaa.QU
