/- ProducerOnce: the walk: however batches are tried again, each number stands at one place. -/
import Derived.Test.YtmdgkjjdcfpjiaaPR
namespace Go.Proofs.Ytmdgkjjdcfpjiaa.PT
open Go.RowKit Go.Maps Go.MapKept Go.ChangeMaps Go.WideElems Go.WideMaps Go.WideShapes Go.Proofs.YtmdgkjjdcfpjiaaW.PrintWords Go.Proofs.YtmdgkjjdcfpjiaaW.PrintLast Go.Proofs.YtmdgkjjdcfpjiaaW.PrintMore Go.Proofs.Ytmdgkjjdcfpjiaa.PProducerOnce
set_option linter.unusedVariables false
set_option linter.unusedSimpArgs false
set_option maxRecDepth 100000

def zero28 : Value := .agg #[.int .i64 0, .int .i64 0, .int .i64 0, .int .i64 0, .int .i64 0, .slice none 0 0]
theorem own_ne_map {w : World} {base : Nat} {e : TypeId} {size n b : Nat} {v : Value} {xs : List Value} {es : Array MapEntry} {ck : Nat} (h : w.ownsRow base e size v n xs) (hg : w.heap[b]? = some (.map es ck)) : some b ≠ v.ownBlock := by
  rcases h.2 with ⟨rfl, _⟩ | ⟨g', cap, cur, rfl, _, hh, _⟩
  · simp [Value.ownBlock]
  · intro he
    have : b = g' := by simpa [Value.ownBlock] using he
    subst this
    rw [hg] at hh
    cases hh
theorem IsPT.mapAt {w0 W : World} {g b : Nat} {N : Nat} {f : Tab} (h : IsPT w0 W g b N f) : ∃ es ck, W.heap[b]? = some (.map es ck) := by
  obtain ⟨h1, h2, h3, D, ⟨es, clock, hb, F, hs, hD⟩, h7⟩ := h
  exact ⟨_, _, hb⟩
/-- An own row of another type is written: the state stands. -/
theorem IsPT.row {α : Type} {R : α → List Value → Prop} {size base : Nat} {v : Value} {ps : List α} {w0 W W1 : World} {g b : Nat} {N : Nat} {f : Tab} (h : IsPT w0 W g b N f) (ho : OwnRow R 3 size W base v ps) (hg : W.grownBy W1 v.ownBlock) : IsPT w0 W1 g b N f := by
  obtain ⟨inner, hw, hr⟩ := ho
  obtain ⟨es, ck, hm⟩ := h.mapAt
  exact h.grown hg (own_ne hw h.1 (by decide)) (own_ne_map hw hm) (fun q ⟨cs, hq⟩ => own_ne hw hq (by decide))
/-- The state is written: an own row stands. -/
theorem own_keepB {α : Type} {R : α → List Value → Prop} {e : TypeId} {size base : Nat} {v : Value} {ps : List α} {w0 W W1 : World} {g b : Nat} {N : Nat} {f : Tab} (h : IsPT w0 W g b N f) (ho : OwnRow R e size W base v ps) (hk : KeepB W W1 b) : OwnRow R e size W1 base v ps := by
  obtain ⟨inner, hw, hr⟩ := ho
  obtain ⟨es, ck, hm⟩ := h.mapAt
  have hne := own_ne_map hw hm
  refine ⟨inner, ⟨hw.1, ?_⟩, hr⟩
  rcases hw.2 with h0 | ⟨g', cap, cur, rfl, hb', hh, hrest⟩
  · exact .inl h0
  · refine .inr ⟨g', cap, cur, rfl, hb', ?_, hrest⟩
    exact (hk.2.2.2.2 g' (blk_lt hh) (by simpa [Value.ownBlock, eq_comm] using hne)).trans hh
theorem blkB {w0 W W1 : World} {g b : Nat} {N : Nat} {f : Tab} (h : IsPT w0 W g b N f) (hk : KeepB W W1 b) {q : Nat} {cs : Array Value} {t : TypeId} {fz : Nat × Nat} (hq : W.heap[q]? = some (.cells cs t fz)) : W1.heap[q]? = some (.cells cs t fz) := by
  obtain ⟨es, ck, hm⟩ := h.mapAt
  refine (hk.2.2.2.2 q (blk_lt hq) ?_).trans hq
  rintro rfl
  rw [hq] at hm
  cases hm
/-- A row of numbers. -/
def RI (x : Int) (cs : List Value) : Prop := cs = [.int .i64 x]
def ats (l : List Int) (j : Nat) : List Int := (List.range j).map (SN l)
theorem ats_len (l : List Int) (j : Nat) : (ats l j).length = j := by simp [ats]
theorem ats_succ (l : List Int) (j : Nat) : ats l (j + 1) = ats l j ++ [SN l j] := by simp [ats, List.range_succ]
/-- Behind i rounds of the second loop. -/
def L2 (w0 : World) (g b : Nat) (l0 l1 : List Int) (vb vn va vi : Value) (wr : World) : Prop :=
  ∃ (j i N : Nat) (f : Tab), vb = .int .i64 (SN l0 j) ∧ vn = .int .i64 (j : Int) ∧ vi = .int .i64 (i : Int) ∧ j ≤ l0.length ∧ i ≤ l1.length ∧ N ≤ i ∧ IsPT w0 wr g b N f ∧ Kept5 (SN l0) (nN l0) f j ∧ OwnRow RI 3 1 wr w0.heap.size va (ats l0 j) ∧ Below w0.heap.size w0 wr
theorem info28 : (Try.prog.info? 28).map (fun i => (i.zero, i.size, i.bytes)) = some (some zero28, 6, 64) := by kernel_rfl
/-- Behind i rounds of the first loop. -/
def L1 (w : World) (l : List Int) (v s i : Value) (wr : World) : Prop :=
  ∃ k : Nat, i = .int .i64 (k : Int) ∧ s = .int .i64 (SN l k) ∧ k ≤ l.length ∧ OwnRow RB 28 6 wr w.heap.size v (bs l k) ∧ Below w.heap.size w wr
set_option maxHeartbeats 4000000 in
theorem producerOnce_walk (A0 : Option Addr) (c0 : Nat) (l0 : List Int) (A1 : Option Addr) (c1 : Nat) (l1 : List Int) (w : World) (hc0 : l0.length ≤ c0) (hr0 : Kd.C (Kd.int .i64) w A0 l0.length l0) (hc1 : l1.length ≤ c1) (hr1 : Kd.C (Kd.int .i64) w A1 l1.length l1) (q0 : (l0.length ≤ maxLen ∧ ∀ x_ ∈ l0, (Lit.int .i64 x_).wf = true)) (q1 : (l1.length ≤ maxLen ∧ ∀ x_ ∈ l1, (Lit.int .i64 x_).wf = true)) :
    Calls Try.prog 3 #[.slice A0 l0.length c0, .slice A1 l1.length c1] w fun e w' => e = .returned (.bool true) ∧ Below w.heap.size w w' := by
  have HR0 := Aside0.mk hr0
  have HR1 := Aside0.mk hr1
  clear q0 q1 hr0 hr1
  by_cases h1 : (l0.length : Int) = 0
  · go_enter Try.func3, Try.ntmps3
    go_wp2_with fail
    all_goals (refine awake_calls.mono ?_; rintro e w' ⟨rfl, hb⟩; go_wp2_with fail; go_ret; exact ⟨rfl, hb⟩)
  by_cases h2 : (l0.length : Int) > 20
  · go_enter Try.func3, Try.ntmps3
    go_wp2_with fail
    all_goals (refine awake_calls.mono ?_; rintro e w' ⟨rfl, hb⟩; go_wp2_with fail; go_ret; exact ⟨rfl, hb⟩)
  by_cases h3 : (l1.length : Int) > 100
  · go_enter Try.func3, Try.ntmps3
    go_wp2_with fail
    all_goals (refine awake_calls.mono ?_; rintro e w' ⟨rfl, hb⟩; go_wp2_with fail; go_ret; exact ⟨rfl, hb⟩)
  have HRun := Aside0.mk (run_of l0 (by omega))
  have hb1 : ((l0.length : Int) == 0) = false := by simpa using h1
  go_enter Try.func3, Try.ntmps3
  go_wp2_with fail
  go_loopw [5, 6, 7] (fun v s i wr => L1 w l0 v s i wr) (fun _ _ i _ => l0.length - (intOf i).toNat)
  case atStart => exact ⟨0, rfl, rfl, Nat.zero_le _, OwnRow.none_ _ _ _ _ _, Below.refl _ _⟩
  case round =>
    obtain ⟨k, rfl, rfl, hk, hO, hB⟩ := hrel
    have HB := Aside0.mk hB
    have HOr := Aside0.mk hO
    clear hO hB
    by_cases hlt : k < l0.length
    · obtain ⟨ad, cc, e1, _, hK, hcc⟩ := Kd.C_get (Kd.C_below HR0.out HB.out) 0 (k : Int) (by omega) (by omega)
      obtain rfl : cc = [.int .i64 (l0.getD k 0)] := hK
      have hx : wr.cell? (ad.add k) = some (.int .i64 (l0.getD k 0)) := by
        have := hcc 0 _ rfl
        simpa [show (Kd.int IntKind.i64).sz = 1 from rfl] using this
      clear hcc
      subst e1
      go_wp2_with fail
      refine (round_calls _ 9 wr (by decide) (by decide)).mono ?_
      rintro e w2 ⟨rfl, hd⟩
      obtain ⟨nn, hnn⟩ : ∃ nn : Nat, 1 + rnd l0[k] 9 = (nn : Int) := ⟨(1 + rnd l0[k] 9).toNat, by have := rnd_range l0[k] (m := 9) (by decide); omega⟩
      have hnw : IntKind.i64.wrap (1 + rnd l0[k] 9) = (nn : Int) := by rw [← hnn]; exact IntWalk.i64_in _ (by have := rnd_range l0[k] (m := 9) (by decide); omega)
      have hnn9 : nn ≤ 9 := by have := rnd_range l0[k] (m := 9) (by decide); omega
      have hgk : l0[k] = l0.getD k 0 := by simp [List.getD, hlt]
      have HNN : Aside0 ((nn : Int) = nN l0 k) := Aside0.mk (by unfold nN; rw [← hgk]; exact hnn.symm)
      clear hgk
      clear hnn
      obtain ⟨MC, hmk⟩ := make_rec nn (by omega)
      have hB2 : Below w.heap.size w w2 := HB.out.trans (hd.below.mono HB.out.size)
      have HB2 : Aside0 (Below w.heap.size w (w2.alloc (.cells MC 55))) := Aside0.mk (below_alloc hB2 _)
      have HO2 : Aside0 (OwnRow RB 28 6 (w2.alloc (.cells MC 55)) w.heap.size u5 (bs l0 k)) := Aside0.mk ((HOr.out.below hd.below).below (below_alloc (Below.refl _ _) _))
      go_wp2_with ((with_reducible refine gate_builtin (b := .append) (xs := #[.tmp 48, .tmp 53]) rfl ?_); at_builtin; refine OwnRow.append (R := RB) (w0 := w) w.heap.size ?h1 (.tmp 48) (.tmp 53) 24 28 zero28 6 64 ?h2 ?h3 ?h4 ?h5 ?h6 ?h7 u5 (bs l0 k) (SN l0 k, nN l0 k) [.int .i64 0, .int .i64 0, .int .i64 3, .int .i64 2, .int .i64 (SN l0 k), .slice (some ⟨w2.heap.size, 0, none⟩) nn nn] ?h8 ?h9 ?h10 ?h11 ?h12 HO2.out HB2.out HB2.out.size ?h13 ?h14; (case h1 => (rfl)); (case h2 => (rfl)); (case h3 => (exact Try.underlying24)); (case h4 => (exact info28)); (case h5 => (rfl)); (case h6 => (decide)); (case h7 => (decide)); (case h8 => (rfl)); (case h9 => (show Value.slice (some ⟨w2.heap.size + 1, 0, none⟩) 1 1 = .slice (some ⟨(w2.alloc (.cells MC 55)).heap.size, 0, none⟩) 1 1; rw [size_alloc])); (case h11 => (rfl)); (case h12 => ((intro u hu; simp only [List.mem_cons, List.not_mem_nil, or_false] at hu; rcases hu with rfl | rfl | rfl | rfl | rfl | rfl <;> rfl))); (case h10 => (exact ⟨_, nn, nn, HNN.out, rfl⟩)); (case h13 => ((rw [bs_len]; omega))); (case' h14 => intro v1 w3 hO1 hB3 hG1 hat1))
      have hs1 : wrap64 (SN l0 k + (nn : Int)) = SN l0 (k + 1) := by
        have h1 := HRun.out.step k hlt
        have h2 := HRun.out.le (j := k + 1) (by omega)
        have h3 := HNN.out
        rw [h1] at h2 ⊢
        rw [h3]
        unfold wrap64
        omega
      rw [hs1]
      exact ⟨⟨k + 1, rfl, rfl, hlt, by rw [bs_succ]; exact hO1, hB3⟩, meas _ _ hlt⟩
    · have hkl : k = l0.length := by omega
      subst hkl
      clear hlt hk
      obtain ⟨Al, cl, hv, hcl, hRl⟩ := HOr.out.reads
      rw [bs_len] at hv hcl hRl
      subst hv
      have HRl := Aside0.mk hRl
      clear hRl
      go_wp2_with fail
      refine (new_pt (w0 := wr) (Below.refl _ _)).mono ?_
      rintro e w3 ⟨g, b, rfl, hI, hB3, -, -, -⟩
      go_wp2_with fail
      have HI := Aside0.mk hI
      have HB3 := Aside0.mk hB3
      clear hI hB3
      go_loopw [10, 11, 12, 13] (fun vb vn va vi W => L2 wr g b l0 l1 vb vn va vi W) (fun _ _ _ i _ => l1.length - (intOf i).toNat)
      case atStart => exact ⟨0, 0, 0, none_, rfl, rfl, rfl, Nat.zero_le _, Nat.zero_le _, Nat.le_refl _, HI.out, rfl, OwnRow.none_ _ _ _ _ _, HB3.out⟩
      case round =>
        rename World => W
        obtain ⟨j, i, N, f, rfl, rfl, rfl, hj, hi, hN, hI2, hK, hO, hB4⟩ := hrel
        have HI2 := Aside0.mk hI2
        have HK := Aside0.mk hK
        have HOa := Aside0.mk hO
        have HB4 := Aside0.mk hB4
        clear hI2 hK hO hB4
        by_cases hlt : i < l1.length
        · obtain ⟨ad, cc, e1, _, hKd, hcc⟩ := Kd.C_get (Kd.C_below (Kd.C_below HR1.out HB.out) (HB4.out.mono (Nat.le_refl _))) 0 (i : Int) (by omega) (by omega)
          obtain rfl : cc = [.int .i64 (l1.getD i 0)] := hKd
          have hx : W.cell? (ad.add i) = some (.int .i64 (l1.getD i 0)) := by
            have := hcc 0 _ rfl
            simpa [show (Kd.int IntKind.i64).sz = 1 from rfl] using this
          clear hcc
          subst e1
          go_wp2_with fail
          refine (round_calls _ (l0.length : Int) W (by omega) (by omega)).mono ?_
          rintro e w4 ⟨rfl, hd4⟩
          obtain ⟨kk, hkk, hkl⟩ : ∃ kk : Nat, rnd l1[i] (l0.length : Int) = (kk : Int) ∧ kk < l0.length := ⟨(rnd l1[i] (l0.length : Int)).toNat, by have := rnd_range l1[i] (m := (l0.length : Int)) (by omega); omega, by have := rnd_range l1[i] (m := (l0.length : Int)) (by omega); omega⟩
          rw [hkk]
          have HB5 : Aside0 (Below wr.heap.size wr w4) := ⟨HB4.out.trans (hd4.below.mono HB4.out.size)⟩
          have HI5 : Aside0 (IsPT wr w4 g b N f) := ⟨HI2.out.below hd4.below⟩
          have HOa5 : Aside0 (OwnRow RI 3 1 w4 wr.heap.size _ (ats l0 j)) := ⟨HOa.out.below hd4.below⟩
          obtain ⟨adl, cl0, eA, _, ⟨A2, n2, c2, hn2, rfl⟩, hcl0⟩ := ReadsRow.get_ (ReadsRow.imp_ HRl.out HB5.out (fun p c h => h)) (0, 0) (kk : Int) (by omega) (by omega)
          subst eA
          have hgk : (bs l0 l0.length).getD ((kk : Int)).toNat (0, 0) = (SN l0 kk, nN l0 kk) := by
            rw [List.getD_eq_getElem?_getD, Int.toNat_natCast, bs_get l0 hkl]
            rfl
          rw [hgk] at hn2 hcl0
          simp only [Int.toNat_natCast] at hcl0
          have y0 := hcl0 0 _ rfl
          have y1 := hcl0 1 _ rfl
          have y2 := hcl0 2 _ rfl
          have y3 := hcl0 3 _ rfl
          have y4 := hcl0 4 _ rfl
          have y5 := hcl0 5 _ rfl
          rw [← add_add] at y1 y2 y3 y4 y5
          change w4.cell? ⟨(adl.add (kk * 6)).block, (adl.add (kk * 6)).off + 1, none⟩ = _ at y1
          change w4.cell? ⟨(adl.add (kk * 6)).block, (adl.add (kk * 6)).off + 2, none⟩ = _ at y2
          change w4.cell? ⟨(adl.add (kk * 6)).block, (adl.add (kk * 6)).off + 3, none⟩ = _ at y3
          change w4.cell? ⟨(adl.add (kk * 6)).block, (adl.add (kk * 6)).off + 4, none⟩ = _ at y4
          change w4.cell? ⟨(adl.add (kk * 6)).block, (adl.add (kk * 6)).off + 5, none⟩ = _ at y5
          change w4.cell? (adl.add (kk * 6)) = _ at y0
          clear hcl0 hgk
          go_wp2_with fail
          clear y0 y1 y2 y3 y4 y5
          have hchk := check_run HRun.out HK.out hkl hj
          rw [← hn2] at hchk
          generalize hW5 : w4.alloc (Obj.cells #[Value.int IntKind.i64 (SN l0 j), Value.int IntKind.i64 0, Value.int IntKind.i64 3, Value.int IntKind.i64 2, Value.int IntKind.i64 (SN l0 kk), Value.slice A2 n2 c2] 28) = w5
          have b5 : w5.heap[w4.heap.size]? = some (Obj.cells #[Value.int IntKind.i64 (SN l0 j), Value.int IntKind.i64 0, Value.int IntKind.i64 3, Value.int IntKind.i64 2, Value.int IntKind.i64 (SN l0 kk), Value.slice A2 n2 c2] 28) := by rw [← hW5]; exact blk_new _ _
          have HI6 : Aside0 (IsPT wr w5 g b N f) := ⟨by rw [← hW5]; exact HI5.out.alloc _⟩
          have HB6 : Aside0 (Below wr.heap.size wr w5) := ⟨by rw [← hW5]; exact below_alloc HB5.out _⟩
          have HOa6 : Aside0 (OwnRow RI 3 1 w5 wr.heap.size u12 (ats l0 j)) := ⟨by rw [← hW5]; exact HOa5.out.below (below_alloc (Below.refl _ _) _)⟩
          clear hW5 HI5 HB5 HOa5 hx
          generalize w4.heap.size = q at b5 ⊢
          have B5 := Aside0.mk b5
          clear b5
          have hN2 : N < 1000000 := by omega
          have HN := Aside0.mk hN2
          have HN' := Aside0.mk hN
          clear hN hN2
          by_cases hkj : kk = j
          · subst hkj
            obtain ⟨f', hA, hK'⟩ := add_next HRun.out HK.out hkl
            rw [← hn2] at hA
            have HA := Aside0.mk hA
            have HK' := Aside0.mk hK'
            have hcc : checkT f 3 2 (SN l0 kk) (n2 : Int) = (0, false, 0) := by rw [hchk]; simp [ansC]
            have HC := Aside0.mk hcc
            have HN2 := Aside0.mk hn2
            clear hA hK' hcc hchk hn2
            refine (check_to (w0 := wr) (n := n2) HC.out HI6.out HB6.out (by decide)).mono ?_
            rintro e w6 ⟨rfl, hI6, hB7, hB56⟩
            have HB56 := Aside0.mk hB56
            clear hB56
            have b6 := (HB56.out.block _ (blk_lt B5.out)).trans B5.out
            have B6 := Aside0.mk b6
            have m0 := (blk_cell b6 0).trans rfl
            have m1 := (blk_cell b6 1).trans rfl
            have m2 := (blk_cell b6 2).trans rfl
            have m3 := (blk_cell b6 3).trans rfl
            have m4 := (blk_cell b6 4).trans rfl
            have m5 := (blk_cell b6 5).trans rfl
            clear b6
            go_wp2_with fail
            refine (add_to (w0 := wr) (n := n2) HA.out hI6 hB7 (by decide) HN.out).mono ?_
            rintro e w7 ⟨rfl, hI7, hB8, hK7⟩
            have b7 := blkB hI6 hK7 B6.out
            have B7 := Aside0.mk b7
            clear m0 m1 m2 m3 m4 m5 b7
            have HI7 := Aside0.mk hI7
            have HB8 := Aside0.mk hB8
            have HOa7 : Aside0 (OwnRow RI 3 1 w7 wr.heap.size u12 (ats l0 kk)) := ⟨own_keepB hI6 (HOa6.out.below HB56.out) hK7⟩
            clear hI6 hB7 hI7 hB8 hK7
            have hs1 : wrap64 (SN l0 kk + (n2 : Int)) = SN l0 (kk + 1) := by
              have h1 := HRun.out.step kk hkl
              have h2 := HRun.out.le (j := kk + 1) (by omega)
              have h3 := HN2.out
              rw [h1] at h2 ⊢
              rw [h3]
              unfold wrap64
              omega
            have HS1 := Aside0.mk hs1
            clear hs1
            go_wp2_with ((with_reducible refine gate_builtin (b := .append) (xs := #[.tmp 113, .tmp 115]) rfl ?_); at_builtin; refine OwnRow.append (R := RI) (w0 := wr) wr.heap.size ?k1 (.tmp 113) (.tmp 115) 22 3 (.int .i64 0) 1 8 ?k2 ?k3 ?k4 ?k5 ?k6 ?k7 u12 (ats l0 kk) (SN l0 kk) [.int .i64 (SN l0 kk)] ?k8 ?k9 ?k10 ?k11 ?k12 HOa7.out HB8.out HB8.out.size ?k13 ?k14; (case k1 => rfl); (case k2 => rfl); (case k3 => exact Try.underlying22); (case k4 => kernel_rfl); (case k5 => rfl); (case k6 => decide); (case k7 => decide); (case k8 => rfl); (case k9 => rfl); (case k11 => rfl); (case k12 => (intro u hu; simp only [List.mem_cons, List.not_mem_nil, or_false] at hu; rcases hu with rfl; rfl)); (case k10 => rfl); (case k13 => (rw [ats_len]; omega)); (case' k14 => (intro v1 w8 hO1 hB9 hG1 hat1; have m5 : w8.cell? ⟨q, 5, none⟩ = some (.slice A2 n2 c2) := (blk_cell ((hG1.block q (blk_lt B7.out) (HOa7.out.ne_block B7.out (by decide))).trans B7.out) 5).trans rfl)))
            have hI8 := HI7.out.row HOa7.out hG1
            rw [HS1.out]
            exact ⟨⟨kk + 1, i + 1, N + 1, f', rfl, rfl, rfl, hkl, hlt, by have := HN'.out; omega, hI8, HK'.out, by rw [ats_succ]; exact hO1, hB9⟩, meas _ _ hlt⟩
          have hadd := fun base => add_other HRun.out HK.out hkl hj hkj base
          rw [← hn2] at hadd
          have HN2 := Aside0.mk hn2
          clear hn2
          by_cases hjk : j < kk
          · have hcc : checkT f 3 2 (SN l0 kk) (n2 : Int) = (0, false, 10) := by rw [hchk]; simp [ansC, hkj, hjk]
            have HA : Aside0 (∀ base, addT f 3 2 (SN l0 kk) (n2 : Int) base = (10, f)) := ⟨fun base => by rw [hadd base, if_pos hjk]⟩
            have HC := Aside0.mk hcc
            clear hcc hchk hadd
            refine (check_to (w0 := wr) (n := n2) HC.out HI6.out HB6.out (by decide)).mono ?_
            rintro e w6 ⟨rfl, hI6, hB7, hB56⟩
            have HB56 := Aside0.mk hB56
            clear hB56
            have b6 := (HB56.out.block _ (blk_lt B5.out)).trans B5.out
            have m0 := (blk_cell b6 0).trans rfl
            have m1 := (blk_cell b6 1).trans rfl
            have m2 := (blk_cell b6 2).trans rfl
            have m3 := (blk_cell b6 3).trans rfl
            have m4 := (blk_cell b6 4).trans rfl
            have m5 := (blk_cell b6 5).trans rfl
            clear b6
            have HI7 := Aside0.mk hI6
            have HB7 := Aside0.mk hB7
            clear hI6 hB7
            go_wp2_with fail
            refine (add_to (w0 := wr) (n := n2) (HA.out _) HI7.out HB7.out (by decide) HN.out).mono ?_
            rintro e w7 ⟨rfl, hI7, hB8, hK7⟩
            clear m0 m1 m2 m3 m4 m5
            have hO8 := own_keepB HI7.out (HOa6.out.below HB56.out) hK7
            have HE := Aside0.mk (⟨hI7, hB8, hO8⟩ : IsPT wr w7 g b (N + 1) f ∧ Below wr.heap.size wr w7 ∧ OwnRow RI 3 1 w7 wr.heap.size u12 (ats l0 j))
            clear hI7 hB8 hK7 hO8
            go_wp2_with fail
            exact ⟨⟨j, i + 1, N + 1, f, rfl, rfl, rfl, hj, hlt, by have := HN'.out; omega, HE.out.1, HK.out, HE.out.2.2, HE.out.2.1⟩, meas _ _ hlt⟩
          by_cases hj5 : j ≤ kk + 5
          · have hcc : checkT f 3 2 (SN l0 kk) (n2 : Int) = (SN l0 kk, true, 0) := by rw [hchk]; simp [ansC, hkj, hjk, hj5]
            have HA : Aside0 (∀ base, addT f 3 2 (SN l0 kk) (n2 : Int) base = (9, f)) := ⟨fun base => by rw [hadd base, if_neg hjk]⟩
            have HC := Aside0.mk hcc
            clear hcc hchk hadd
            refine (check_to (w0 := wr) (n := n2) HC.out HI6.out HB6.out (by decide)).mono ?_
            rintro e w6 ⟨rfl, hI6, hB7, hB56⟩
            have HB56 := Aside0.mk hB56
            clear hB56
            have b6 := (HB56.out.block _ (blk_lt B5.out)).trans B5.out
            have m0 := (blk_cell b6 0).trans rfl
            have m1 := (blk_cell b6 1).trans rfl
            have m2 := (blk_cell b6 2).trans rfl
            have m3 := (blk_cell b6 3).trans rfl
            have m4 := (blk_cell b6 4).trans rfl
            have m5 := (blk_cell b6 5).trans rfl
            clear b6
            have HI7 := Aside0.mk hI6
            have HB7 := Aside0.mk hB7
            clear hI6 hB7
            obtain ⟨Aa, ca, hva, hca, hRa⟩ := (HOa6.out.below HB56.out).reads
            rw [ats_len] at hva hca hRa
            subst hva
            obtain ⟨ada, cda, eAa, _, hcda, hcca⟩ := ReadsRow.get_ hRa 0 (kk : Int) (by omega) (by omega)
            subst eAa
            have hgk : (ats l0 j).getD ((kk : Int)).toNat 0 = SN l0 kk := by
              have : kk < j := by omega
              simp [ats, List.getD, this]
            rw [hgk] at hcda
            have hcda' : cda = [.int .i64 (SN l0 kk)] := hcda
            subst hcda'
            have z0 : w6.cell? (ada.add kk) = some (.int .i64 (SN l0 kk)) := by
              have := hcca 0 _ rfl
              simpa using this
            clear hcca hcda hRa hgk
            go_wp2_with fail
            refine (add_to (w0 := wr) (n := n2) (HA.out _) HI7.out HB7.out (by decide) HN.out).mono ?_
            rintro e w7 ⟨rfl, hI7, hB8, hK7⟩
            clear m0 m1 m2 m3 m4 m5
            have hO8 := own_keepB HI7.out (HOa6.out.below HB56.out) hK7
            have HE := Aside0.mk (⟨hI7, hB8, hO8⟩ : IsPT wr w7 g b (N + 1) f ∧ Below wr.heap.size wr w7 ∧ OwnRow RI 3 1 w7 wr.heap.size _ (ats l0 j))
            clear hI7 hB8 hK7 hO8
            go_wp2_with fail
            exact ⟨⟨j, i + 1, N + 1, f, rfl, rfl, rfl, hj, hlt, by have := HN'.out; omega, HE.out.1, HK.out, HE.out.2.2, HE.out.2.1⟩, meas _ _ hlt⟩
          · have hcc : checkT f 3 2 (SN l0 kk) (n2 : Int) = (0, false, 9) := by rw [hchk]; simp [ansC, hkj, hjk, hj5]
            have HA : Aside0 (∀ base, addT f 3 2 (SN l0 kk) (n2 : Int) base = (9, f)) := ⟨fun base => by rw [hadd base, if_neg hjk]⟩
            have HC := Aside0.mk hcc
            clear hcc hchk hadd
            refine (check_to (w0 := wr) (n := n2) HC.out HI6.out HB6.out (by decide)).mono ?_
            rintro e w6 ⟨rfl, hI6, hB7, hB56⟩
            have HB56 := Aside0.mk hB56
            clear hB56
            have b6 := (HB56.out.block _ (blk_lt B5.out)).trans B5.out
            have m0 := (blk_cell b6 0).trans rfl
            have m1 := (blk_cell b6 1).trans rfl
            have m2 := (blk_cell b6 2).trans rfl
            have m3 := (blk_cell b6 3).trans rfl
            have m4 := (blk_cell b6 4).trans rfl
            have m5 := (blk_cell b6 5).trans rfl
            clear b6
            have HI7 := Aside0.mk hI6
            have HB7 := Aside0.mk hB7
            clear hI6 hB7
            go_wp2_with fail
            refine (add_to (w0 := wr) (n := n2) (HA.out _) HI7.out HB7.out (by decide) HN.out).mono ?_
            rintro e w7 ⟨rfl, hI7, hB8, hK7⟩
            clear m0 m1 m2 m3 m4 m5
            have hO8 := own_keepB HI7.out (HOa6.out.below HB56.out) hK7
            have HE := Aside0.mk (⟨hI7, hB8, hO8⟩ : IsPT wr w7 g b (N + 1) f ∧ Below wr.heap.size wr w7 ∧ OwnRow RI 3 1 w7 wr.heap.size u12 (ats l0 j))
            clear hI7 hB8 hK7 hO8
            go_wp2_with fail
            exact ⟨⟨j, i + 1, N + 1, f, rfl, rfl, rfl, hj, hlt, by have := HN'.out; omega, HE.out.1, HK.out, HE.out.2.2, HE.out.2.1⟩, meas _ _ hlt⟩
        · by_cases hj0 : j = 0
          · subst hj0
            go_wp2_with fail
            refine awake_calls.mono ?_
            rintro e w9 ⟨rfl, hB9⟩
            go_wp2_with fail
            go_ret
            have h8 := HB.out.trans (HB4.out.mono HB.out.size)
            exact ⟨rfl, h8.trans (hB9.mono h8.size)⟩
          · have hX : nextT f 3 = (2, SN l0 j, true) := by
              have h3 := HK.out
              unfold Kept5 at h3
              rw [if_neg hj0] at h3
              unfold nextT
              rw [h3]
              show (2, nextO ⟨2, last5 (SN l0) (nN l0) j⟩, true) = _
              rw [next_last5 HRun.out (by omega) hj]
            have HX := Aside0.mk hX
            clear hX
            go_wp2_with fail
            refine (next_pt (w0 := wr) HI2.out 3 (by decide) HX.out).mono ?_
            rintro e w8 ⟨rfl, hB8⟩
            have HB8 := Aside0.mk hB8
            clear hB8
            go_wp2_with fail
            refine awake_calls.mono ?_
            rintro e w9 ⟨rfl, hB9⟩
            go_wp2_with fail
            go_ret
            have h8 := HB.out.trans (HB4.out.mono HB.out.size)
            have h9 := h8.trans (HB8.out.mono h8.size)
            exact ⟨rfl, h9.trans (hB9.mono h9.size)⟩
end Go.Proofs.Ytmdgkjjdcfpjiaa.PT
