/- ProducerApart: the walk: what one producer does changes nothing of another one's. -/
import Derived.Test.YtmdgkjjdcfpjiaaAPK
import Derived.Test.YtmdgkjjdcfpjiaaAPS
namespace Go.Proofs.Ytmdgkjjdcfpjiaa.PT
open Go.RowKit Go.Maps Go.MapKept Go.ChangeMaps Go.WideElems Go.WideMaps Go.WideShapes Go.Proofs.YtmdgkjjdcfpjiaaW.PrintWords Go.Proofs.YtmdgkjjdcfpjiaaW.PrintLast Go.Proofs.YtmdgkjjdcfpjiaaW.PrintMore
open Go.Proofs.Ytmdgkjjdcfpjiaa.PProducerApart (S28 S55 k28 k55 z28 k28_open)
set_option linter.unusedVariables false
set_option linter.unusedSimpArgs false
set_option maxRecDepth 100000

/-- Behind i batches. -/
def LAp (w : World) (l : List S28) (id : Int) (g b g2 b2 : Nat) (vi : Value) (wr : World) : Prop :=
  ∃ (i N N2 : Nat) (f f2 : Tab), vi = .int .i64 (i : Int) ∧ i ≤ l.length ∧ N ≤ i ∧ N2 ≤ i ∧ IsPT w wr g b N f ∧ IsPT w wr g2 b2 N2 f2 ∧ f id = f2 id ∧ (∀ q, q ≠ id → f2 q = none) ∧ Below w.heap.size w wr
theorem elem_at {w wr : World} {A : Option Addr} {l : List S28} {i : Nat} (h : Kd.C k28 w A l.length l) (hb : Below w.heap.size w wr) (hi : i < l.length) :
    ∃ ad A5 c5, A = some ad ∧ wr.cell? (ad.add (i * 6)) = some (.int .i64 (l.getD i z28).f0) ∧ wr.cell? ⟨(ad.add (i * 6)).block, (ad.add (i * 6)).off + 1, none⟩ = some (.int .i64 (l.getD i z28).f1) ∧ wr.cell? ⟨(ad.add (i * 6)).block, (ad.add (i * 6)).off + 2, none⟩ = some (.int .i64 (l.getD i z28).f2) ∧
      wr.cell? ⟨(ad.add (i * 6)).block, (ad.add (i * 6)).off + 3, none⟩ = some (.int .i64 (l.getD i z28).f3) ∧ wr.cell? ⟨(ad.add (i * 6)).block, (ad.add (i * 6)).off + 4, none⟩ = some (.int .i64 (l.getD i z28).f4) ∧ wr.cell? ⟨(ad.add (i * 6)).block, (ad.add (i * 6)).off + 5, none⟩ = some (.slice A5 (l.getD i z28).f5.length c5) := by
  obtain ⟨ad, cc, e1, _, hK, hcc⟩ := Kd.C_get (Kd.C_below h hb) z28 (i : Int) (by omega) (by omega)
  obtain ⟨A5, c5, rfl, _, _⟩ := k28_open hK
  simp only [Int.toNat_natCast] at hcc
  have y0 := hcc 0 _ rfl
  have y1 := hcc 1 _ rfl
  have y2 := hcc 2 _ rfl
  have y3 := hcc 3 _ rfl
  have y4 := hcc 4 _ rfl
  have y5 := hcc 5 _ rfl
  have hs : k28.sz = 6 := rfl
  rw [hs] at y0 y1 y2 y3 y4 y5
  rw [← add_add] at y1 y2 y3 y4 y5
  exact ⟨ad, A5, c5, e1, y0, y1, y2, y3, y4, y5⟩
set_option maxHeartbeats 4000000 in
theorem producerApart_walk (A0 : Option Addr) (c0 : Nat) (l0 : List (S28)) (a1 : Int) (w : World) (hc0 : l0.length ≤ c0) (hr0 : Kd.C k28 w A0 l0.length l0) (q0 : (l0.length ≤ maxLen ∧ ∀ x_ ∈ l0, ((Lit.int .i64 x_.f0).wf = true ∧ (Lit.int .i64 x_.f1).wf = true ∧ (Lit.int .i64 x_.f2).wf = true ∧ (Lit.int .i64 x_.f3).wf = true ∧ (Lit.int .i64 x_.f4).wf = true ∧ (x_.f5.length ≤ maxLen ∧ ∀ x__ ∈ x_.f5, ((Lit.int .i64 x__.f0).wf = true ∧ (Lit.int .i64 x__.f1).wf = true ∧ True ∧ (x__.f3.length ≤ maxLen ∧ ∀ x___ ∈ x__.f3, (Lit.int .u8 x___).wf = true) ∧ True ∧ (x__.f5.length ≤ maxLen ∧ ∀ x___ ∈ x__.f5, (Lit.int .u8 x___).wf = true)))))) (q1 : (Lit.int .i64 a1).wf = true) :
    Calls Try.prog 7 #[.slice A0 l0.length c0, .int .i64 a1] w fun e w' => e = .returned (.bool true) ∧ Below w.heap.size w w' := by
  obtain ⟨ks, r, hs, hr80⟩ := AP.small_is l0 q0.1 (fun b hb => (q0.2 b hb).2.2.2.2.2.1)
  have hwf : ∀ x ∈ l0, (Lit.int .i64 x.f2).wf = true := fun x hx => (q0.2 x hx).2.2.1
  have HWF := Aside0.mk hwf
  have HR0 := Aside0.mk hr0
  have HQ1 := Aside0.mk q1
  have HS := Aside0.mk hs
  clear hr0 q0 q1 hwf hs
  go_enter Try.func7, Try.ntmps7
  go_wp2_with fail
  refine (Go.Proofs.Ytmdgkjjdcfpjiaa.PProducerApart.cordwainlaw10_small.calls ks A0 c0 l0 r w HR0.out hc0 HS.out).mono ?_
  rintro e w1 ⟨rfl, hb1⟩
  have HB1 := Aside0.mk hb1
  clear hb1
  cases r
  · go_wp2_with fail
    all_goals (refine awake_calls.mono ?_; rintro e w2 ⟨rfl, hb⟩; go_wp2_with fail; go_ret; exact ⟨rfl, HB1.out.trans (hb.mono HB1.out.size)⟩)
  have hl80 := hr80 rfl
  by_cases hid : a1 < 1
  · go_wp2_with fail
    all_goals (refine awake_calls.mono ?_; rintro e w2 ⟨rfl, hb⟩; go_wp2_with fail; go_ret; exact ⟨rfl, HB1.out.trans (hb.mono HB1.out.size)⟩)
  go_wp2_with fail
  refine (new_pt (w0 := w) HB1.out).mono ?_
  rintro e w2 ⟨g, b, rfl, hI2, hB2, -, -, -⟩
  go_wp2_with fail
  refine (new_pt (w0 := w) hB2).mono ?_
  rintro e w3 ⟨g2, b2, rfl, hJ3, hB3, hB23, hbb, -⟩
  have hne : b2 ≠ b := by
    obtain ⟨_, _, _, D, ⟨es, clock, hb, _⟩, _⟩ := hI2
    have := blk_lt hb
    omega
  have HI3 := Aside0.mk (hI2.below hB23)
  have HJ3 := Aside0.mk hJ3
  have HB3 := Aside0.mk hB3
  clear hI2 hB2 hJ3 hB3 hB23 hbb
  go_wp2_with fail
  go_loopw [7] (fun vi wr => LAp w l0 a1 g b g2 b2 vi wr) (fun vi _ => l0.length - (intOf vi).toNat)
  case atStart => exact ⟨0, 0, 0, none_, none_, rfl, Nat.zero_le _, Nat.le_refl _, Nat.le_refl _, HI3.out, HJ3.out, rfl, fun _ _ => rfl, HB3.out⟩
  case round =>
    obtain ⟨i, M, M2, f, f2, rfl, hi, hM, hM2, hI, hJ, hff, hf2, hB⟩ := hrel
    have HI := Aside0.mk hI
    have HJ := Aside0.mk hJ
    have HB := Aside0.mk hB
    have HF := Aside0.mk hff
    have HF2 := Aside0.mk hf2
    clear hI hJ hB hff hf2
    by_cases hlt : i < l0.length
    · obtain ⟨ad, A5, c5, eA, y0, y1, y2, y3, y4, y5⟩ := elem_at HR0.out HB.out hlt
      have hmem : l0.getD i z28 ∈ l0 := by
        rw [List.getD_eq_getElem?_getD, List.getElem?_eq_getElem hlt]
        exact List.getElem_mem hlt
      have hwp := HWF.out _ hmem
      subst eA
      have HEL : Aside0 (∀ W, Below w.heap.size w W → ∃ A5 c5, W.cell? (ad.add (i * 6)) = some (.int .i64 (l0.getD i z28).f0) ∧ W.cell? ⟨(ad.add (i * 6)).block, (ad.add (i * 6)).off + 1, none⟩ = some (.int .i64 (l0.getD i z28).f1) ∧ W.cell? ⟨(ad.add (i * 6)).block, (ad.add (i * 6)).off + 2, none⟩ = some (.int .i64 (l0.getD i z28).f2) ∧
          W.cell? ⟨(ad.add (i * 6)).block, (ad.add (i * 6)).off + 3, none⟩ = some (.int .i64 (l0.getD i z28).f3) ∧ W.cell? ⟨(ad.add (i * 6)).block, (ad.add (i * 6)).off + 4, none⟩ = some (.int .i64 (l0.getD i z28).f4) ∧ W.cell? ⟨(ad.add (i * 6)).block, (ad.add (i * 6)).off + 5, none⟩ = some (.slice A5 (l0.getD i z28).f5.length c5)) := ⟨fun W hW => by
        obtain ⟨ad', A5', c5', e', h⟩ := elem_at HR0.out hW hlt
        injection e' with e'
        subst e'
        exact ⟨A5', c5', h⟩⟩
      clear hmem
      generalize l0.getD i z28 = X at y0 y1 y2 y3 y4 y5 hwp HEL
      obtain ⟨x0, x1, x2, x3, x4, x5⟩ := X
      simp only at y0 y1 y2 y3 y4 y5 hwp HEL
      have HWP := Aside0.mk hwp
      clear hwp
      go_wp2_with fail
      obtain ⟨rv, f', hadd⟩ : ∃ rv f', addT f x2 x3 x4 (x5.length : Int) x0 = (rv, f') := ⟨_, _, rfl⟩
      refine (add_to (w0 := w) hadd HI.out HB.out HWP.out (by omega)).mono ?_
      rintro e w4 ⟨rfl, hI4, hB4, hK4⟩
      have HJ4 : Aside0 (IsPT w w4 g2 b2 M2 f2) := ⟨keepB_of HI.out HJ.out hne hK4⟩
      have HI4 := Aside0.mk hI4
      have HB4 := Aside0.mk hB4
      have HADD := Aside0.mk hadd
      clear hI4 hB4 hK4 hadd y0 y1 y2 y3 y4 y5
      obtain ⟨A6, c6, z0, z1, z2, z3, z4, z5⟩ := HEL.out w4 HB4.out
      by_cases hx : x2 = a1
      · subst hx
        go_wp2_with fail
        obtain ⟨rv2, f2', hadd2⟩ : ∃ rv f', addT f2 x2 x3 x4 (x5.length : Int) x0 = (rv, f') := ⟨_, _, rfl⟩
        have hsame := add_at HF.out x3 x4 (x5.length : Int) x0
        rw [HADD.out, hadd2] at hsame
        obtain ⟨hrv, hff'⟩ := hsame
        have hrv : rv = rv2 := hrv
        subst hrv
        refine (add_to (w0 := w) hadd2 HJ4.out HB4.out HWP.out (by omega)).mono ?_
        rintro e w5 ⟨rfl, hJ5, hB5, hK5⟩
        have HI5 : Aside0 (IsPT w w5 g b (M + 1) f') := ⟨keepB_of HJ4.out HI4.out (Ne.symm hne) hK5⟩
        have HJ5 := Aside0.mk hJ5
        have HB5 := Aside0.mk hB5
        have HFF := Aside0.mk hff'
        have hf2n : ∀ q, q ≠ x2 → f2' q = none := fun q hq => by
          have h1 := add_else f2 x2 x3 x4 (x5.length : Int) x0 hq
          rw [hadd2] at h1
          exact h1.trans (HF2.out q hq)
        have HFN := Aside0.mk hf2n
        clear hJ5 hB5 hK5 hff' hadd2 hf2n z0 z1 z2 z3 z4 z5
        go_wp2_with fail
        exact ⟨⟨i + 1, M + 1, M2 + 1, f', f2', rfl, hlt, by omega, by omega, HI5.out, HJ5.out, HFF.out, HFN.out, HB5.out⟩, meas _ _ hlt⟩
      · have hxb : (x2 == a1) = false := by simpa using hx
        go_wp2_with fail
        have hfa : f' a1 = f2 a1 := by
          have h1 := add_else f x2 x3 x4 (x5.length : Int) x0 (q := a1) (Ne.symm hx)
          rw [HADD.out] at h1
          exact h1.trans HF.out
        exact ⟨⟨i + 1, M + 1, M2, f', f2, rfl, hlt, by omega, by omega, HI4.out, HJ4.out, hfa, HF2.out, HB4.out⟩, meas _ _ hlt⟩
    · obtain rfl : i = l0.length := by omega
      obtain ⟨R, hR⟩ : ∃ R, nextT f a1 = R := ⟨_, rfl⟩
      have hR2 : nextT f2 a1 = R := by rw [← next_at HF.out]; exact hR
      have HR := Aside0.mk hR
      have HR2 := Aside0.mk hR2
      clear hR hR2
      go_wp2_with fail
      refine (next_pt (w0 := w) HI.out a1 HQ1.out HR.out).mono ?_
      rintro e w4 ⟨rfl, hb4⟩
      have HJ4 : Aside0 (IsPT w w4 g2 b2 M2 f2) := ⟨HJ.out.below hb4⟩
      have HB4 : Aside0 (Below w.heap.size w w4) := ⟨HB.out.trans (hb4.mono HB.out.size)⟩
      clear hb4
      go_wp2_with fail
      refine (next_pt (w0 := w) HJ4.out a1 HQ1.out HR2.out).mono ?_
      rintro e w5 ⟨rfl, hb5⟩
      have HJ5 : Aside0 (IsPT w w5 g2 b2 M2 f2) := ⟨HJ4.out.below hb5⟩
      have HB5 : Aside0 (Below w.heap.size w w5) := ⟨HB4.out.trans (hb5.mono HB4.out.size)⟩
      clear hb5
      go_wp2_with fail
      refine (known_calls HJ5.out a1 HF2.out).mono ?_
      rintro e w6 ⟨A6, c6, k6, rfl, hk6, hb6⟩
      have HB6 : Aside0 (Below w.heap.size w w6) := ⟨HB5.out.trans (hb6.mono HB5.out.size)⟩
      clear hb6
      go_wp2_with fail
      refine awake_calls.mono ?_
      rintro e w7 ⟨rfl, hb7⟩
      go_wp2_with fail
      go_ret
      exact ⟨rfl, HB6.out.trans (hb7.mono HB6.out.size)⟩
end Go.Proofs.Ytmdgkjjdcfpjiaa.PT
