/- A batch more of a producer. -/
import Derived.Test.YtmdgkjjdcfpjiaaPC
namespace Go.Proofs.Ytmdgkjjdcfpjiaa.PT
open Go.RowKit Go.Maps Go.MapKept Go.ChangeMaps Go.WideElems Go.WideMaps Go.WideShapes Go.Proofs.YtmdgkjjdcfpjiaaW.PrintWords Go.Proofs.YtmdgkjjdcfpjiaaW.PrintLast Go.Proofs.YtmdgkjjdcfpjiaaW.PrintMore Go.Proofs.Ytmdgkjjdcfpjiaa.PProducerOnce
attribute [local go_sem] max2_int min2_int max_two min_two
set_option linter.unusedVariables false
set_option linter.unusedSimpArgs false
set_option maxRecDepth 100000

theorem IsPT.more {w0 W : World} {g b : Nat} {N M : Nat} {f : Tab} (h : IsPT w0 W g b N f) (hM : N ≤ M) : IsPT w0 W g b M f := by
  obtain ⟨h1, h2, h3, D, ⟨es, clock, hb, F, hs, hD⟩, h7⟩ := h
  exact ⟨h1, h2, h3, D, ⟨es, clock, hb, F, Nat.le_trans hs hM, hD⟩, h7⟩
/-- No block but the map's own is another one. -/
def KeepB (w w' : World) (b : Nat) : Prop := w'.os = w.os ∧ w'.tape = w.tape ∧ w'.output = w.output ∧ w.heap.size ≤ w'.heap.size ∧ ∀ k, k < w.heap.size → k ≠ b → w'.heap[k]? = w.heap[k]?
theorem KeepB.of {w w' : World} {b : Nat} (h : Below w.heap.size w w') : KeepB w w' b := ⟨h.os, h.tape, h.output, h.size, fun k hk _ => h.block k hk⟩
theorem KeepB.below {w0 w w' : World} {b : Nat} (h : KeepB w w' b) (hb : w0.heap.size ≤ b) (h0 : w0.heap.size ≤ w.heap.size) : Below w0.heap.size w w' := ⟨h.1, h.2.1, h.2.2.1, h.2.2.2.1, fun k hk => h.2.2.2.2 k (Nat.lt_of_lt_of_le hk h0) (by omega)⟩

/-- The last five. -/
def nrow (l : List S97) (seq n base : Int) : List S97 := (l ++ [(⟨seq, n, base⟩ : S97)]).drop ((l ++ [(⟨seq, n, base⟩ : S97)]).length - 5)
theorem box_row {w : World} {bx : Nat} {x : S97} (h : w.heap[bx]? = some (.cells #[.int .i64 x.f0, .int .i64 x.f1, .int .i64 x.f2] 97 (0, 0))) : Kd.C k97 w (some ⟨bx, 0, none⟩) 1 [x] := by
  refine ⟨rfl, by decide, fun _ => ⟨⟨bx, 0, none⟩, rfl, fun j p hj => ?_⟩⟩
  match j, hj with
  | 0, hj =>
    injection hj with hj
    subst hj
    refine ⟨_, rfl, k97_mk w x, fun i u hu => ?_⟩
    match i, hu with
    | 0, hu => injection hu with hu; subst hu; exact (blk_cell h 0).trans rfl
    | 1, hu => injection hu with hu; subst hu; exact (blk_cell h 1).trans rfl
    | 2, hu => injection hu with hu; subst hu; exact (blk_cell h 2).trans rfl
    | i + 3, hu => cases hu
  | j + 1, hj => cases hj
theorem open_mk97 {w w' : World} {base : Nat} {ok : Nat → Prop} (x : S97) (cs : List Value) (h : k97.K w x cs) : k97.M w' base ok x cs := by obtain rfl := k97_open h; exact k97_mkM _ _ _ _
theorem bwd (W : World) (o : Obj) : Below W.heap.size W.drew (W.alloc o).drew := ⟨rfl, rfl, rfl, (below_alloc (Below.refl _ _) o).size, fun k hk => Below.heap_alloc W o k hk⟩
theorem lt_alloc (W : World) (o : Obj) : W.heap.size < (W.alloc o).drew.heap.size := by
  show W.heap.size < (W.alloc o).heap.size
  rw [size_alloc]
  exact Nat.lt_succ_self _
theorem below_drew0 {B : Nat} {w W : World} (h : Below B w W) : Below B w W.drew := ⟨h.os, h.tape, h.output, h.size, h.block⟩
theorem ne5 {d n m c : Nat} (h : d = n - 5) (h1 : n = m + 1) (hc : n ≤ c) : ¬ c = d := by omega
theorem size97 : 0 < k97.sz := by decide
theorem cells4 {W w' : World} (h : ∀ k, k < W.heap.size → w'.heap[k]? = W.heap[k]?) {a1 a2 a3 a4 : Addr} {v1 v2 v3 v4 : Value} (h1 : W.cell? a1 = some v1) (h2 : W.cell? a2 = some v2) (h3 : W.cell? a3 = some v3) (h4 : W.cell? a4 = some v4) : w'.cell? a1 = some v1 ∧ w'.cell? a2 = some v2 ∧ w'.cell? a3 = some v3 ∧ w'.cell? a4 = some v4 :=
  ⟨(World.cell?_of_block (w := W) (h _ (World.block_lt_of_cell? _ _ h1))).trans h1, (World.cell?_of_block (w := W) (h _ (World.block_lt_of_cell? _ _ h2))).trans h2, (World.cell?_of_block (w := W) (h _ (World.block_lt_of_cell? _ _ h3))).trans h3, (World.cell?_of_block (w := W) (h _ (World.block_lt_of_cell? _ _ h4))).trans h4⟩
set_option maxHeartbeats 4000000 in
theorem add_pt {w0 w : World} {g b : Nat} {N : Nat} {f : Tab} (h : IsPT w0 w g b N f) (base last p ep seq : Int) (A : Option Addr) (n c : Nat) (hp : (Lit.int .i64 p).wf = true) (hN : N < 1000000) {r : Int × Tab} (hr : addT f p ep seq n base = r) :
    Calls Try.prog 14 #[.pointer (some ⟨g, 0, none⟩), .agg #[.int .i64 base, .int .i64 last, .int .i64 p, .int .i64 ep, .int .i64 seq, .slice A n c]] w fun e w' => e = .returned (.int .i64 r.1) ∧ IsPT w0 w' g b (N + 1) r.2 ∧ KeepB w w' b := by
  by_cases h0 : p ≤ 0
  · have HI := Aside0.mk h
    clear h
    unfold addT at hr
    rw [if_pos h0] at hr
    subst hr
    go_enter Try.func14, Try.ntmps14
    go_wp2
    go_ret
    exact ⟨rfl, (HI.out.alloc _).more (Nat.le_succ _), .of (by (repeat (first | exact Below.refl _ _ | assumption | refine below_drew ?_ | refine below_alloc ?_ _ | refine pw_below_drewN ?_ _)))⟩
  · have HI := Aside0.mk h
    clear h
    obtain ⟨q, hq⟩ : ∃ q, checkT f p ep seq n = q := ⟨_, rfl⟩
    have HN0 := Aside0.mk hN
    clear hN
    go_enter Try.func14, Try.ntmps14
    go_wp2_with fail
    refine (check_pt (HI.out.alloc _) base last p ep seq A n c hp hq).mono ?_
    rintro e w1 ⟨rfl, hB⟩
    have bl : w1.heap[w.heap.size]? = some (Obj.cells #[Value.int IntKind.i64 base, Value.int IntKind.i64 last, Value.int IntKind.i64 p, Value.int IntKind.i64 ep, Value.int IntKind.i64 seq, Value.slice A n c] 28) := (hB.block _ (by rw [size_alloc]; omega)).trans (blk_new _ _)
    have HI1 := Aside0.mk ((HI.out.alloc (Obj.cells #[Value.int IntKind.i64 base, Value.int IntKind.i64 last, Value.int IntKind.i64 p, Value.int IntKind.i64 ep, Value.int IntKind.i64 seq, Value.slice A n c] 28)).below hB)
    have HB1 := Aside0.mk ((below_alloc (Below.refl w.heap.size w) (Obj.cells #[Value.int IntKind.i64 base, Value.int IntKind.i64 last, Value.int IntKind.i64 p, Value.int IntKind.i64 ep, Value.int IntKind.i64 seq, Value.slice A n c] 28)).trans (hB.mono (below_alloc (Below.refl w.heap.size w) _).size))
    have hlt1 := Aside0.mk (blk_lt bl)
    clear hB
    have k0 : w1.cell? ⟨w.heap.size, 0, none⟩ = some (.int .i64 base) := (blk_cell bl 0).trans rfl
    have k2 : w1.cell? ⟨w.heap.size, 2, none⟩ = some (.int .i64 p) := (blk_cell bl 2).trans rfl
    have k3 : w1.cell? ⟨w.heap.size, 3, none⟩ = some (.int .i64 ep) := (blk_cell bl 3).trans rfl
    have k4 : w1.cell? ⟨w.heap.size, 4, none⟩ = some (.int .i64 seq) := (blk_cell bl 4).trans rfl
    have k5 : w1.cell? ⟨w.heap.size, 5, none⟩ = some (.slice A n c) := (blk_cell bl 5).trans rfl
    have cg : w1.cell? ⟨g, 0, none⟩ = some (.map (some b)) := (blk_cell HI1.out.1 0).trans rfl
    obtain ⟨q1, q2, q3⟩ := q
    unfold addT at hr
    rw [if_neg (Int.not_le.mpr h0), hq] at hr
    by_cases e3 : q3 = 0
    case neg =>
      simp only [if_pos (show q3 ≠ 0 from e3)] at hr
      subst hr
      go_wp2_with fail
      go_ret
      exact ⟨rfl, HI1.out.more (Nat.le_succ _), .of HB1.out⟩
    subst e3
    simp only [ne_eq, not_true_eq_false, ↓reduceIte] at hr
    cases q2 with
    | true =>
      simp only [↓reduceIte] at hr
      subst hr
      go_wp2_with fail
      go_ret
      exact ⟨rfl, HI1.out.more (Nat.le_succ _), .of HB1.out⟩
    | false =>
      simp only [Bool.false_eq_true, ↓reduceIte] at hr
      by_cases e0 : n = 0
      · subst e0
        rw [if_pos (by rfl)] at hr
        subst hr
        go_wp2_with fail
        go_ret
        exact ⟨rfl, HI1.out.more (Nat.le_succ _), .of HB1.out⟩
      rw [if_neg (by omega)] at hr
      have hmn := fun (w : World) (r : Option Nat) => run_eql_map_nil (P := Try.prog) w 88 3 93 r Try.underlying88
      have cg2 : ∀ ob : Obj, (w1.alloc ob).cell? ⟨g, 0, none⟩ = some (.map (some b)) := fun ob => (blk_cell ((HI1.out.alloc ob).1) 0).trans rfl
      have ck2 : ∀ ob : Obj, (w1.alloc ob).cell? ⟨w.heap.size, 2, none⟩ = some (.int .i64 p) := fun ob => ((below_alloc (Below.refl w1.heap.size w1) ob).cell (p := ⟨w.heap.size, 2, none⟩) (blk_lt bl)).trans k2
      have ck3 : ∀ ob : Obj, (w1.alloc ob).cell? ⟨w.heap.size, 3, none⟩ = some (.int .i64 ep) := fun ob => ((below_alloc (Below.refl w1.heap.size w1) ob).cell (p := ⟨w.heap.size, 3, none⟩) (blk_lt bl)).trans k3
      rcases hf : f p with _ | o
      focus
        have hl1 := look_none (HI1.out.drewN 1) hp hf
        have hl2 := fun ob : Obj => look_none ((HI1.out.alloc ob).drewN 1) hp hf
        change (Instr.lookup 88 (.map (some b)) (.int .i64 p) true).run Try.prog w1.drew = .ok (.tuple #[.agg #[.int .i64 0, .slice none 0 0], .bool false]) w1.drew at hl1
        change ∀ ob : Obj, (Instr.lookup 88 (.map (some b)) (.int .i64 p) true).run Try.prog (w1.alloc ob).drew = .ok (.tuple #[.agg #[.int .i64 0, .slice none 0 0], .bool false]) (w1.alloc ob).drew at hl2
        go_wp2_with fail
        go_region
        go_wp2_with fail
        obtain ⟨l', hl'⟩ : ∃ l' : List S97, l' = [] := ⟨_, rfl⟩
        obtain ⟨A1, hA1⟩ : ∃ A1 : Option Addr, A1 = none := ⟨_, rfl⟩
        obtain ⟨c1, hc⟩ : ∃ c1 : Nat, c1 = 0 := ⟨_, rfl⟩
        obtain ⟨e', he'⟩ : ∃ e' : Int, e' = ep := ⟨_, rfl⟩
        have HF : Aside0 (Kd.F k97 w1 (T97 w1) A1 l'.length l') := ⟨by rw [hl', hA1]; exact Kd.F_nil _ _ _⟩
        have hlen : l'.length ≤ 5 := by rw [hl']; decide
        have hc1 : l'.length ≤ c1 := by rw [hl', hc]; decide
        have HO : Aside0 (oneT f p ep seq n base = ⟨e', nrow l' seq n base⟩) := ⟨by rw [hl', he']; unfold oneT nrow; rw [hf]⟩
        have b1 : (w1.alloc (Obj.cells #[Value.int IntKind.i64 ep, Value.slice none 0 0] 93)).drew.heap[w1.heap.size]? = some (Obj.cells #[Value.int IntKind.i64 e', Value.slice A1 l'.length c1] 93) := by rw [hl', hA1, hc, he']; exact blk_new _ _
        clear hl' hA1 hc he'
        generalize hW : (w1.alloc (Obj.cells #[Value.int IntKind.i64 ep, Value.slice none 0 0] 93)).drew = W2 at *
      rotate_left
      focus
        obtain ⟨A0, c0, hl0, hne, hlen, hc0, hF⟩ := look_some HI1.out hp hf
        have hl1 := hl0 w1.drew (by (repeat (first | exact Below.refl _ _ | assumption | refine below_drew ?_ | refine below_alloc ?_ _ | refine pw_below_drewN ?_ _)))
        have hl2 := fun ob : Obj => hl0 (w1.alloc ob).drew (by (repeat (first | exact Below.refl _ _ | assumption | refine below_drew ?_ | refine below_alloc ?_ _ | refine pw_below_drewN ?_ _)))
        clear hl0
        have HF := Aside0.mk hF
        clear hF
        by_cases h2 : ep > o.ep
        focus
          go_wp2_with fail
          go_region
          go_wp2_with fail
          clear hlen hc0 hne HF hl1 hl2
          obtain ⟨l', hl'⟩ : ∃ l' : List S97, l' = [] := ⟨_, rfl⟩
          obtain ⟨A1, hA1⟩ : ∃ A1 : Option Addr, A1 = none := ⟨_, rfl⟩
          obtain ⟨c1, hc⟩ : ∃ c1 : Nat, c1 = 0 := ⟨_, rfl⟩
          obtain ⟨e', he'⟩ : ∃ e' : Int, e' = ep := ⟨_, rfl⟩
          have HF : Aside0 (Kd.F k97 w1 (T97 w1) A1 l'.length l') := ⟨by rw [hl', hA1]; exact Kd.F_nil _ _ _⟩
          have hlen : l'.length ≤ 5 := by rw [hl']; decide
          have hc1 : l'.length ≤ c1 := by rw [hl', hc]; decide
          have HO : Aside0 (oneT f p ep seq n base = ⟨e', nrow l' seq n base⟩) := ⟨by rw [hl', he']; unfold oneT nrow; rw [hf]; simp only [if_pos h2]⟩
          have b1 : (w1.alloc (Obj.cells #[Value.int IntKind.i64 ep, Value.slice none 0 0] 93)).drew.heap[w1.heap.size]? = some (Obj.cells #[Value.int IntKind.i64 e', Value.slice A1 l'.length c1] 93) := by rw [hl', hA1, hc, he']; exact blk_new _ _
          clear hl' hA1 hc he'
          generalize hW : (w1.alloc (Obj.cells #[Value.int IntKind.i64 ep, Value.slice none 0 0] 93)).drew = W2 at *
        rotate_left
        focus
          go_wp2_with fail
          go_region
          go_wp2_with fail
          clear hl1 hl2
          obtain ⟨A1, rfl⟩ : ∃ A1 : Option Addr, A1 = A0 := ⟨_, rfl⟩
          obtain ⟨c1, rfl⟩ : ∃ c1 : Nat, c1 = c0 := ⟨_, rfl⟩
          have hc1 := hc0
          clear hc0
          obtain ⟨l', hl'⟩ : ∃ l' : List S97, l' = o.l := ⟨_, rfl⟩
          obtain ⟨e', he'⟩ : ∃ e' : Int, e' = o.ep := ⟨_, rfl⟩
          have HO : Aside0 (oneT f p ep seq n base = ⟨e', nrow l' seq n base⟩) := ⟨by rw [hl', he']; unfold oneT nrow; rw [hf]; simp only [if_neg (Int.not_lt.mpr h2)]⟩
          have b1 : (w1.alloc (Obj.cells #[Value.int IntKind.i64 o.ep, Value.slice A1 o.l.length c1] 93)).drew.heap[w1.heap.size]? = some (Obj.cells #[Value.int IntKind.i64 e', Value.slice A1 l'.length c1] 93) := by rw [hl', he']; exact blk_new _ _
          rw [← hl'] at HF hlen hc1
          clear hl' he' hne
          generalize hW : (w1.alloc (Obj.cells #[Value.int IntKind.i64 o.ep, Value.slice A1 o.l.length c1] 93)).drew = W2 at *
      all_goals
        have HB2 := Aside0.mk (show Below w1.heap.size w1 W2 by rw [← hW]; (repeat (first | exact Below.refl _ _ | assumption | refine below_drew ?_ | refine below_alloc ?_ _ | refine pw_below_drewN ?_ _)))
        clear hW cg2 ck2 ck3 hmn
        try clear hl1 hl2
        have b0 := (HB2.out.block _ (blk_lt bl)).trans bl
        clear bl k0 k2 k3 k4 k5 cg
        have k0 : W2.cell? ⟨w.heap.size, 0, none⟩ = some (.int .i64 base) := (blk_cell b0 0).trans rfl
        have k4 : W2.cell? ⟨w.heap.size, 4, none⟩ = some (.int .i64 seq) := (blk_cell b0 4).trans rfl
        have k5 : W2.cell? ⟨w.heap.size, 5, none⟩ = some (.slice A n c) := (blk_cell b0 5).trans rfl
        have m1 : W2.cell? ⟨w1.heap.size, 1, none⟩ = some (.slice A1 l'.length c1) := (blk_cell b1 1).trans rfl
        have HN2 := Aside0.mk HB2.out.size
        have HL2 := Aside0.mk (blk_lt b1)
        have hCl : ∀ w', Below W2.heap.size W2.drew w' → Calls Try.prog 37 #[.slice A1 l'.length c1] w' fun e w'' => ∃ A' c', e = .returned (.slice A' l'.length c') ∧ k97.R 97 w'' W2.heap.size (fun _ => True) (.slice A' l'.length c') l' ∧ Below W2.heap.size W2.drew w'' ∧ ∀ k, k < w'.heap.size → w''.heap[k]? = w'.heap[k]? := fun w' hw' =>
          (clone_calls (c := c1) (Kd.F_now (Kd.F_below (Kd.F_below HF.out (below_drew HB2.out)) hw')) hlen).mono (fun e w'' ⟨A', c', h1, h2, h3⟩ => ⟨A', c', h1, Kd.R_lower h2 hw'.size, hw'.trans (h3.mono hw'.size), h3.block⟩)
        have hle : (l'.length + 1) * 24 ≤ 140737488355328 := by omega
        have hle' : (l'.length + [(⟨seq, n, base⟩ : S97)].length) * 24 ≤ 140737488355328 := hle
        obtain ⟨L, hL⟩ : ∃ L, l' ++ [(⟨seq, n, base⟩ : S97)] = L := ⟨_, rfl⟩
        have hL1 : L.length = l'.length + 1 := by rw [← hL]; simp
        obtain ⟨d, hd⟩ : ∃ d : Nat, d = L.length - 5 := ⟨_, rfl⟩
        have hw5 : IntKind.i64.wrap ((L.length : Int) - 5) = (L.length : Int) - 5 := IntWalk.i64_in _ (by omega)
        have hmax : (if (L.length : Int) - 5 < 0 then 0 else (L.length : Int) - 5) = (d : Int) := by split <;> omega
        have HM := Aside0.mk hd
        have hdl : d ≤ L.length := by omega
        have hdl1 : (d : Int) ≤ (L.length : Int) := by omega
        have HL1 := Aside0.mk hL1
        clear hd hL1
        go_region_held3 (fun w' => w'.cell? ⟨w.heap.size, 0, none⟩ = some (.int .i64 base) ∧ w'.cell? ⟨w.heap.size, 4, none⟩ = some (.int .i64 seq) ∧ w'.cell? ⟨w.heap.size, 5, none⟩ = some (.slice A n c) ∧ w'.cell? ⟨w1.heap.size, 1, none⟩ = some (.slice A1 l'.length c1))
          (first | exact ⟨k0, k4, k5, m1⟩ | exact cells4 hB4.block k0 k4 k5 m1 | exact cells4 hB3.block k0 k4 k5 m1 | exact cells4 (fun k hk => (Below.heap_alloc _ _ _ (Nat.lt_of_lt_of_le hk hB3.size)).trans (hB3.block k hk)) k0 k4 k5 m1 | exact cells4 (fun k hk => Below.heap_alloc _ _ _ hk) k0 k4 k5 m1)
          (first
            | (go_at_call 37; (first | refine (hCl _ (Below.refl _ _)).mono ?_ | refine (hCl _ (bwd _ _)).mono ?_); rintro e3 w3 ⟨A3, c3, rfl, hR3, hB3, hK3⟩)
            | (refine Kd.R_append_rows_step k97 (Rr := k97.K (w3.alloc (Obj.cells #[Value.int IntKind.i64 seq, Value.int IntKind.i64 n, Value.int IntKind.i64 base] 97))) (w0 := W2.drew) W2.heap.size rfl (.tmp 67) (.tmp 76) 91 97 zero97 24 rfl Try.underlying91 info97 rfl size97 (Nat.succ_pos _) (.slice A3 l'.length c3) l' [⟨seq, n, base⟩] (some ⟨w3.heap.size, 0, none⟩) 1 1 (fun _ => True) (fun _ => False) rfl rfl (Kd.R_below hR3 (below_alloc (Below.refl _ _) _)) (box_row (x := ⟨seq, n, base⟩) (blk_new _ _)) open_mk97 (fun _ h => h.elim) (fun _ _ => trivial) (hB3.alloc hB3.size _) (Nat.le_trans hB3.size (below_alloc (Below.refl _ _) _).size) hle ?_; intro v4 w4 hR4 hB4 hg4 hat4; rw [hL] at hR4; obtain ⟨A4, c4, rfl, hc4, hr4⟩ := Kd.R_reads hR4; have hdc : ¬ c4 = d := (ne5 HM.out HL1.out hc4); have hdc2 : d ≤ c4 := Nat.le_trans hdl hc4; have b1' := (hB4.block _ (blk_lt b1)).trans b1; have m1' : w4.cell? ⟨w1.heap.size, 1, none⟩ = some (.slice A1 l'.length c1) := (blk_cell b1' 1).trans rfl; have f1' := blk_frozen b1' 1)
            | (refine Kd.R_append_rows_step k97 (Rr := k97.K w3) (w0 := W2.drew) W2.heap.size rfl (.tmp 67) (.tmp 76) 91 97 zero97 24 rfl Try.underlying91 info97 rfl size97 (Nat.succ_pos _) (.slice A3 l'.length c3) l' [⟨seq, n, base⟩] (some ⟨W2.heap.size, 0, none⟩) 1 1 (fun _ => True) (fun _ => False) rfl rfl hR3 (box_row (x := ⟨seq, n, base⟩) ((hK3 W2.heap.size (lt_alloc W2 _)).trans (blk_new W2 _))) open_mk97 (fun _ h => h.elim) (fun _ _ => trivial) hB3 hB3.size hle ?_; intro v4 w4 hR4 hB4 hg4 hat4; rw [hL] at hR4; obtain ⟨A4, c4, rfl, hc4, hr4⟩ := Kd.R_reads hR4; have hdc : ¬ c4 = d := (ne5 HM.out HL1.out hc4); have hdc2 : d ≤ c4 := Nat.le_trans hdl hc4; have b1' := (hB4.block _ (blk_lt b1)).trans b1; have m1' : w4.cell? ⟨w1.heap.size, 1, none⟩ = some (.slice A1 l'.length c1) := (blk_cell b1' 1).trans rfl; have f1' := blk_frozen b1' 1))
        all_goals
          have HI4 := Aside0.mk (HI1.out.below (HB2.out.trans ((below_drew (Below.refl W2.heap.size W2)).mono HB2.out.size |>.trans (hB4.mono HB2.out.size))))
          have HB4 := Aside0.mk hB4
          have HR4 := Aside0.mk hR4
          have b0' := (hB4.block _ (blk_lt b0)).trans b0
          have k2' : w4.cell? ⟨w.heap.size, 2, none⟩ = some (.int .i64 p) := (blk_cell b0' 2).trans rfl
          have m0' : w4.cell? ⟨w1.heap.size, 0, none⟩ = some (.int .i64 e') := (blk_cell b1' 0).trans rfl
          have cg' : w4.cell? ⟨g, 0, none⟩ = some (.map (some b)) := (blk_cell HI4.out.1 0).trans rfl
          clear hB4 hR4 hr4 hg4 hat4 hK3 hR3 hB3 hCl k0 k4 k5 m1 b0 b1 hle hle'
          have HC4 := Aside0.mk hc4
          have HLL := Aside0.mk hL
          go_wp2_with fail
          generalize hW5 : w4.setCell _ (Value.slice (Option.map _ A4) (L.length - d) (c4 - d)) = W5
          have HB14 := Aside0.mk (HB2.out.trans ((below_drew (Below.refl W2.heap.size W2)).mono HB2.out.size |>.trans (HB4.out.mono HB2.out.size)))
          have HB5 : Aside0 (Below w1.heap.size w1 W5) := ⟨by rw [← hW5]; exact HB14.out.setCell (Nat.le_refl _) _⟩
          have HI5 := Aside0.mk (HI1.out.below HB5.out)
          have b5 : W5.heap[w1.heap.size]? = some (.cells #[.int .i64 e', .slice (Option.map (fun x => x.add (d * 3)) A4) (L.length - d) (c4 - d)] 93 (0, 0)) := by rw [← hW5]; exact blk_set b1' 1 _
          have b05 : W5.heap[w.heap.size]? = some (Obj.cells #[Value.int IntKind.i64 base, Value.int IntKind.i64 last, Value.int IntKind.i64 p, Value.int IntKind.i64 ep, Value.int IntKind.i64 seq, Value.slice A n c] 28) := by rw [← hW5]; exact blk_far b0' (by show w.heap.size ≠ w1.heap.size; exact Nat.ne_of_lt hlt1.out) _
          have hFL : Kd.F k97 w4 (fun q => W2.heap.size ≤ q ∧ T97 w4 q) A4 L.length L := Kd.F_mono (Kd.R_F (Kd.R_bound HR4.out)) (fun k hk => ⟨hk.2.1, by
            obtain ⟨_, _, _, q, hq, cells, hc⟩ := hk
            have hq' : q = 97 := by simpa [show k97.E = [] from rfl] using hq
            subst hq'
            exact ⟨cells, hc⟩⟩)
          have hF5 : Kd.F k97 W5 (fun q => W2.heap.size ≤ q ∧ T97 w4 q) A4 L.length L := by rw [← hW5]; exact Kd.F_far hFL (fun k hk => by show k ≠ w1.heap.size; exact (Nat.ne_of_gt (Nat.lt_of_lt_of_le HL2.out hk.1))) _
          have hT5 : ∀ k, W2.heap.size ≤ k ∧ T97 w4 k → T97 W5 k := fun k hk => hk.2.keep (by rw [← hW5]; exact Below.heap_setCell w4 _ _ k (by show k ≠ w1.heap.size; exact (Nat.ne_of_gt (Nat.lt_of_lt_of_le HL2.out hk.1))))
          have hcut := Kd.F_cut (m := d) (Kd.F_mono hF5 hT5) hdl HC4.out
          rw [if_neg hdc] at hcut
          have hnr : L.drop d = nrow l' seq n base := by unfold nrow; rw [HLL.out, HM.out]
          have hnl : (nrow l' seq n base).length = L.length - d := by rw [← hnr, List.length_drop]
          rw [hnr] at hcut
          have HCUT := Aside0.mk hcut
          rw [← hnl] at b5
          have k2 : W5.cell? ⟨w.heap.size, 2, none⟩ = some (.int .i64 p) := (blk_cell b05 2).trans rfl
          have n0 : W5.cell? ⟨w1.heap.size, 0, none⟩ = some (.int .i64 e') := (blk_cell b5 0).trans rfl
          have n1 : W5.cell? ⟨w1.heap.size, 1, none⟩ = some (.slice (Option.map (fun x => x.add (d * 3)) A4) (nrow l' seq n base).length (c4 - d)) := (blk_cell b5 1).trans rfl
          have cg : W5.cell? ⟨g, 0, none⟩ = some (.map (some b)) := (blk_cell HI5.out.1 0).trans rfl
          have hn1 : 0 < (nrow l' seq n base).length := by rw [hnl]; have := HM.out; have := HL1.out; omega
          obtain ⟨D, hown, hput⟩ := (HI5.out.drewN 1).put (o := ⟨e', nrow l' seq n base⟩) hp (List.length_pos_iff.1 hn1) (by show (nrow l' seq n base).length ≤ 5; rw [hnl]; have := HM.out; have := HL1.out; omega) (A := Option.map (fun x => x.add (d * 3)) A4) (c := c4 - d) (by show (nrow l' seq n base).length ≤ c4 - d; rw [hnl]; have := HC4.out; omega) (Kd.F_drewN HCUT.out 1)
          have HPUT := Aside0.mk hput
          have HOWN := Aside0.mk hown
          clear hown hput hcut hFL hF5 hT5 hW5 b05 b5 b0' b1' k2' m0' cg' m1' f1' hnl hn1
          go_still_tail 7, (by kernel_rfl)
          change wpList _ _ _ _ _ W5.drew
          at_mapUpdate
          refine wpList_mapUpdate_own _ rfl _ _ _ 88 rfl 3 93 law3 Try.underlying88 held b N D rfl HOWN.out (by have := HN0.out; unfold maxLen; omega) _ _ _ rfl rfl (key3 hp) _ [] rfl ?_
          intro w6 hown6 hg6
          have HI6 := HPUT.out w6 hown6 hg6
          have HX := Aside0.mk hg6
          have HI6' := Aside0.mk HI6
          clear hown6 hg6 HI6
          go_wp2_with fail
          go_ret
          subst hr
          refine ⟨rfl, by rw [HO.out]; exact HI6'.out, ?_⟩
          have hg := HX.out
          have hwS : Below w.heap.size w W5 := HB1.out.trans (HB5.out.mono HB1.out.size)
          have hz : w0.heap.size ≤ w.heap.size := Nat.le_trans HI.out.2.1 (Nat.le_of_lt (blk_lt HI.out.1))
          have hb' : Below w0.heap.size w w6 := Below.grown (w := W5.drew) (below_drew0 (hwS.mono hz)) hg (Nat.le_trans hz hwS.size) (fun k hk => by injection hk with hk; subst hk; exact HI.out.2.2.1)
          exact ⟨hb'.os, hb'.tape, hb'.output, hb'.size, fun k hk hne => (hg.block k (Nat.lt_of_lt_of_le hk hwS.size) (by simpa using hne)).trans (hwS.block k hk)⟩
end Go.Proofs.Ytmdgkjjdcfpjiaa.PT
