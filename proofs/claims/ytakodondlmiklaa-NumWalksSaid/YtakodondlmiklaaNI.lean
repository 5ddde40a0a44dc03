/- A row of numbers is walked: the iterator, and the law's own loop over it. -/
import Derived.RangeFuncBox
import Derived.RangeFuncNested
import Derived.RangeFuncBound
import Derived.RangeFuncCalls
import Derived.RangeFuncLeaves
import Derived.Shelf.Abstract
import Derived.Shelf.RegionOpen
import Derived.Shelf.AbstractIn
import Derived.WalkKit
import Derived.OwnWalkIn
import Derived.TacticsInMore
import Derived.LoopNIn
import Derived.LoopIn
import Derived.Maps.OwnIn
import Derived.Maps.AppendAt
import Derived.Test.YtakodondlmiklaaNP
namespace Go.Proofs.Ytakodondlmiklaa.NW
open Go.RowKit Go.Shelf Go.Proofs.Ytakodondlmiklaa.PNumWalks Go.Proofs.YtakodondlmiklaaW.PrintWords Go.Proofs.YtakodondlmiklaaW.PrintLast Go.Proofs.YtakodondlmiklaaW.PrintMore Go.Proofs.Ytakodondlmiklaa.UsePNumWalks
set_option linter.unusedVariables false
set_option linter.unusedSimpArgs false
set_option maxRecDepth 100000
attribute [local go_sem] Oper.semAt_some

theorem size_alloc (w : World) (o : Obj) : (w.alloc o).heap.size = w.heap.size + 1 := by unfold World.alloc; exact Array.size_push ..
theorem info5 : (Try.prog.info? 5).map (fun i => (i.zero, i.size, i.bytes)) = some (some (.int .u8 0), 1, 1) := by kernel_rfl
theorem info3 : (Try.prog.info? 3).map (fun i => (i.zero, i.size, i.bytes)) = some (some (.int .i64 0), 1, 8) := by kernel_rfl
/-- How long a slice is. -/
def lenOf : Value → Nat
  | .slice _ n _ => n
  | _ => 0
/-- A slice is cut from the front. -/
theorem cut_b {A : Option Addr} {n c u : Nat} {bs : List Int} {w0 : World} (hn : bs.length = n) (hu : u ≤ n) (hc : n ≤ c) (hr : Kd.C (Kd.int .u8) w0 A n bs) :
    ∃ (A' : Option Addr) (c' : Nat), (∀ W : World, (Instr.slice 23 (.slice A n c) (some (.int .i64 (u : Int))) none none).run Try.prog W = .ok (.slice A' (bs.drop u).length c') W) ∧ Kd.C (Kd.int .u8) w0 A' (bs.drop u).length (bs.drop u) ∧ (bs.drop u).length ≤ c' := by
  subst hn
  obtain ⟨i0, hi, hz0, hz1, hz2⟩ := info_parts info5
  refine ⟨_, c - u, fun W => ?_, Kd.C_drop hr hu hc, by rw [List.length_drop]; omega⟩
  have h := cut_from (P := Try.prog) 23 5 .i64 Try.underlying23 hi 1 hz1 A bs.length c (u : Int) (by omega) (by omega) W
  rw [Int.toNat_natCast] at h
  rw [h, List.length_drop]
  rfl
set_option maxHeartbeats 2000000 in
theorem it_in (n : Nat) (hn : 7 ≤ n) (l Bb : Nat) (w0 : World) (A : Option Addr) (c : Nat) (bs ns : List Int) (hrow : Kd.C (Kd.int .u8) w0 A bs.length bs) (hc : bs.length ≤ c) (hR : Row ns bs)
    (J Jx : List Int → World → Prop) (W : World) (hb0 : Below w0.heap.size w0 W)
    (hJ : AbidesFrom W.heap.size J)
    (hY : ∀ pre x W1, J pre W1 → pre.length < ns.length → YieldAt Fence.wide (n - 1) Try.prog l #[.int .i64 x] W1 fun e W' =>
      (e = .returned (.bool true) ∧ J (pre ++ [x]) W' ∧ Below w0.heap.size W1 W') ∨ (e = .returned (.bool false) ∧ Jx (pre ++ [x]) W'))
    (hBb : W.cell? ⟨Bb, 0, none⟩ = some (.slice A bs.length c)) (h0 : J [] W) :
    CallsIn Fence.wide n Try.prog 50 #[.func (.yield l) #[] #[], .pointer (some ⟨Bb, 0, none⟩)] W fun e W' => (∃ v, e = .returned v) ∧ ((∃ xs, xs = ns ∧ J xs W') ∨ (∃ pre, pre <+: ns ∧ Jx pre W')) := by
  have hfG : Fence.wide.fn 14 := trivial
  refine callsIn_of_wp Try.func50 rfl trivial ?_ rfl
  simp only [Try.ntmps50, List.size_toArray, List.length_cons, List.length_nil, Nat.reduceAdd, Nat.reduceSub, Array.replicate_succ, Array.replicate_zero, List.push_toArray, List.append_toArray, List.nil_append, List.cons_append]
  gi_wp2_with fail
  gi_loopw [3] (fun v wr => ∃ (k : Nat) (A' : Option Addr) (c' : Nat) (bs' : List Int), k ≤ ns.length ∧ v = .slice A' bs'.length c' ∧ bs'.length ≤ c' ∧ Kd.C (Kd.int .u8) w0 A' bs'.length bs' ∧ Row (ns.drop k) bs' ∧ J (ns.take k) wr ∧ Below w0.heap.size w0 wr)
    (fun v _ => lenOf v)
  case atStart => exact ⟨0, A, c, bs, Nat.zero_le _, rfl, hc, hrow, by rw [List.drop_zero]; exact hR, by rw [List.take_zero]; exact h0, hb0⟩
  case round =>
    obtain ⟨k, A', c', bs', hk, rfl, hc', hrow', hR', hJs, hb⟩ := hrel
    have hrw := Kd.C_below hrow' hb
    have HJ := Aside0.mk hJs
    have HB := Aside0.mk hb
    have HROW := Aside0.mk hrow'
    clear hJs hb hrow'
    gi_wp2_with fail
    by_cases hlt : k < ns.length
    · have hd : ns.drop k = ns[k] :: ns.drop (k + 1) := List.drop_eq_getElem_cons hlt
      rw [hd] at hR'
      obtain ⟨u, hget, hu0, hu1, hR2⟩ := hR'
      refine ⟨fun _ => by omega, ?_⟩
      refine (callsIn_wide.2 (num_Get.calls 60 A' c' bs' _ _ _ wr hrw hc' hget)).mono ?_
      rintro e w2 ⟨rfl, hd2⟩
      have hJ2 : J (ns.take k) w2 := hJ _ wr w2 none HJ.out ⟨hd2.below.os, hd2.below.tape, hd2.below.output, hd2.below.size, fun i hi _ => hd2.below.block i hi⟩ (fun r e => by cases e)
      have HB2 : Aside0 (Below w0.heap.size w0 w2) := ⟨HB.out.trans (hd2.below.mono HB.out.size)⟩
      obtain ⟨fn, tmps, assign, body, hy, hRd⟩ := hY (ns.take k) ns[k] w2 hJ2 (by rw [List.length_take]; omega)
      have hts : ns.take k ++ [ns[k]] = ns.take (k + 1) := by rw [List.take_succ_eq_append_getElem hlt]
      rw [hts] at hRd
      obtain ⟨A2, c2, hcut, hrow2, hc2⟩ := cut_b rfl hu1 hc' HROW.out
      have HR2 := Aside0.mk hR2
      have HROW2 := Aside0.mk hrow2
      have hdl : (bs'.drop u).length < bs'.length := by rw [List.length_drop]; omega
      generalize bs'.drop u = bs2 at HR2 HROW2 hcut hc2 hdl
      clear hR2 hrow2 hrw hd2 hJ2 hget hd
      generalize ns[k] = x at hy ⊢
      gi_wp2_with fail
      refine ⟨fun _ => by omega, ?_⟩
      refine hRd.mono ?_
      rintro e W3 (⟨rfl, hJ3, hk3⟩ | ⟨rfl, hJx3⟩)
      · gi_wp2_with fail
        go_roundw
        case rel => exact ⟨k + 1, A2, c2, bs2, hlt, rfl, hc2, HROW2.out, HR2.out, hJ3, HB2.out.trans hk3⟩
        case measure => exact hdl
      · gi_wp2_with fail
        refine bodyPost_ret (results_none rfl _ _ _) rfl ?_
        exact ⟨⟨_, rfl⟩, .inr ⟨_, List.take_prefix _ _, hJx3⟩⟩
    · obtain rfl : k = ns.length := by omega
      rw [List.drop_length] at hR'
      obtain ⟨x, y, hget⟩ := hR'
      refine ⟨fun _ => by omega, ?_⟩
      refine (callsIn_wide.2 (num_Get.calls 60 A' c' bs' _ _ _ wr hrw hc' hget)).mono ?_
      rintro e w2 ⟨rfl, hd2⟩
      have hJ2 : J (ns.take ns.length) w2 := hJ _ wr w2 none HJ.out ⟨hd2.below.os, hd2.below.tape, hd2.below.output, hd2.below.size, fun i hi _ => hd2.below.block i hi⟩ (fun r e => by cases e)
      rw [List.take_length] at hJ2
      clear hrw hd2 hget
      gi_wp2_with fail
      refine ⟨fun _ h => (by cases h), ?_⟩
      gi_wp2_with fail
      refine bodyPost_ret (results_none rfl _ _ _) rfl ?_
      exact ⟨⟨_, rfl⟩, .inl ⟨_, rfl, hJ2⟩⟩
theorem it_stops (n : Nat) (hn : 7 ≤ n) (Bb : Nat) (w0 w : World) (A : Option Addr) (c : Nat) (bs ns : List Int) (hrow : Kd.C (Kd.int .u8) w0 A bs.length bs) (hc : bs.length ≤ c) (hR : Row ns bs)
    (hb0 : Below w0.heap.size w0 w) (hBb : w.cell? ⟨Bb, 0, none⟩ = some (.slice A bs.length c)) :
    SeqStopsK Fence.wide n Try.prog 50 #[.pointer (some ⟨Bb, 0, none⟩)] (fun x : Int => #[.int .i64 x]) (Below w0.heap.size) (fun xs => xs = ns) (fun pre => pre <+: ns) ns.length w := fun l J Jx W hW hJ _ hY h0 =>
  it_in n hn l Bb w0 A c bs ns hrow hc hR J Jx W (hb0.trans (hW.mono hb0.size)) hJ hY ((hW.cell (p := ⟨Bb, 0, none⟩) (World.block_lt_of_cell? _ _ hBb)).trans hBb) h0
theorem all_calls {w : World} (A : Option Addr) (n c : Nat) : Calls Try.prog 42 #[.slice A n c] w fun e w' => e = .returned (.func (.func 50) #[] #[.pointer (some ⟨w.heap.size, 0, none⟩)]) ∧ w' = w.alloc (.cells #[.slice A n c] 23) := by
  go_enter Try.func42, Try.ntmps42
  go_wp2_with fail
  go_ret
  exact ⟨rfl, rfl⟩
theorem cmp_nil (a : Value) (W : World) : (binOp .eql 73 (.func (.func 50) #[] #[a]) .nilFunc).run Try.prog W = .ok (.bool false) W := by kernel_rfl
/-- The row of those who came. -/
def HasRow (n₀ B : Nat) (pre : List Int) (W : World) : Prop := ∃ v, Boxed W B 71 v ∧ W.ownsRow n₀ 3 1 v pre.length (pre.map (Value.int .i64)) ∧ (v = .slice none 0 0 ↔ pre = [])
set_option maxHeartbeats 4000000 in
theorem walk_in (n : Nat) (hn : 9 ≤ n) {w : World} {Bb : Nat} {A : Option Addr} {c : Nat} {bs ns : List Int} {most : Int} (hrow : Kd.C (Kd.int .u8) w A bs.length bs) (hc : bs.length ≤ c) (hR : Row ns bs)
    (hBb : w.cell? ⟨Bb, 0, none⟩ = some (.slice A bs.length c)) (hlen : ns.length ≤ 1000000) (hm : 0 ≤ most) :
    CallsIn Fence.wide n Try.prog 44 #[.func (.func 50) #[] #[.pointer (some ⟨Bb, 0, none⟩)], .int .i64 most] w fun e w' => ∃ (v : Value) (k : Nat), e = .returned v ∧ (k : Int) = min most (ns.length : Int) ∧ w'.ownsRow w.heap.size 3 1 v k ((ns.take k).map (Value.int .i64)) ∧ Below w.heap.size w w' := by
  obtain ⟨i0, hi, hz0, hz1, hz2⟩ := info_parts info3
  refine callsIn_of_wp_marks Try.func44 rfl trivial ?_ rfl
  simp only [Try.ntmps44, List.size_toArray, List.length_cons, List.length_nil, Nat.reduceAdd, Nat.reduceSub, Array.replicate_succ, Array.replicate_zero, List.push_toArray, List.append_toArray, List.nil_append, List.cons_append]
  have hcmp := cmp_nil
  gi_wp2_with fail
  obtain ⟨W0, hW0⟩ : ∃ W0, ((w.alloc (Obj.cells #[Value.int IntKind.i64 most] 3)).alloc (Obj.cells #[Value.slice none 0 0] 71)) = W0 := ⟨_, rfl⟩
  have bM : Boxed W0 w.heap.size 3 (.int .i64 most) := by rw [← hW0]; exact (Boxed.new w _ _).alloc _
  have bL : Boxed W0 (w.heap.size + 1) 71 (.slice none 0 0) := by
    have := Boxed.new (w.alloc (Obj.cells #[Value.int IntKind.i64 most] 3)) 71 (.slice none 0 0)
    rw [size_alloc] at this
    rw [← hW0]
    exact this
  have hB0 : Below w.heap.size w W0 := by rw [← hW0]; exact below_alloc (below_alloc (Below.refl _ _) _) _
  have hsz : W0.heap.size = w.heap.size + 2 := by rw [← hW0, size_alloc, size_alloc]
  rw [hW0]
  clear hW0
  have hOwn : OwnFrom W0.heap.size (fun pre W => (HasRow (w.heap.size + 1) (w.heap.size + 1) pre W ∧ Boxed W w.heap.size 3 (.int .i64 most)) ∧ ((pre.length : Int) ≤ most ∧ Below w.heap.size w W)) :=
    OwnFrom.and (OwnFrom.and (Own.from (holdsRow_own (w.heap.size + 1) (w.heap.size + 1) 71 3 1 (fun pre => pre.length) (fun pre => pre.map (Value.int .i64)) (fun pre v => v = .slice none 0 0 ↔ pre = [])) _) (Own.from (boxed_own _ _ _) _)) (OwnFrom.and (ownFrom_pure _ _) (ownFrom_below (Nat.le_refl _) (by omega)))
  refine wpIn_rangeFunc_ownG rfl (by omega) (gf := 50) (lb := #[.pointer (some ⟨Bb, 0, none⟩)]) rfl trivial (enters_of Try.func50 (by kernel_rfl) rfl)
    (it_stops (n - 1) (by omega) Bb w W0 A c bs ns hrow hc hR hB0 ((hB0.cell (p := ⟨Bb, 0, none⟩) (World.block_lt_of_cell? _ _ hBb)).trans hBb)) belowK_t (belowK_b (by omega)) (Below.refl _ _) (fun _ => rfl)
    (fun pre W => (HasRow (w.heap.size + 1) (w.heap.size + 1) pre W ∧ Boxed W w.heap.size 3 (.int .i64 most)) ∧ ((pre.length : Int) ≤ most ∧ Below w.heap.size w W))
    (fun c pre W => c = .exit 0 ∧ ∃ p x, pre = p ++ [x] ∧ ((HasRow (w.heap.size + 1) (w.heap.size + 1) p W ∧ Boxed W w.heap.size 3 (.int .i64 most)) ∧ ((p.length : Int) ≤ most ∧ Below w.heap.size w W)) ∧ most ≤ p.length)
    hOwn
    (fun c s X Y row hs hg hr => by obtain ⟨hc, p, x, e, hi, hm'⟩ := hs; exact ⟨hc, p, x, e, hOwn p X Y row hi hg hr, hm'⟩)
    ⟨⟨⟨_, bL, World.ownsRow_nil _ _ _ _, by simp⟩, bM⟩, hm, hB0⟩
    (fun x => { tmps := #[.func (.func 50) #[] #[.pointer (some ⟨Bb, 0, none⟩)], .int .i64 most, undef, .pointer (some ⟨w.heap.size, 0, none⟩), .slice none 0 0, .pointer (some ⟨w.heap.size + 1, 0, none⟩), .int .i64 x, .func (.func 50) #[] #[.pointer (some ⟨Bb, 0, none⟩)], .bool false, .func (.func 50) #[] #[.pointer (some ⟨Bb, 0, none⟩)], .int .i64 x, undef, undef, undef, undef, undef, undef, undef, undef, undef], defers := [] }) ?assign ?body ?done ?stop
  case assign =>
    intro l x W K hK
    gi_wp2
    exact hK
  case body =>
    rintro l pre x W ⟨⟨⟨v, hv, hrow, hnil⟩, hbm⟩, hle, hB⟩ hlt
    obtain ⟨A, c, rfl⟩ := own_slice hrow
    have hc := hv.cell
    have hmc := hbm.cell
    by_cases hge : most ≤ pre.length
    · gi_wp2_with fail
      exact ⟨KeepsFrom.refl _ _, rfl, pre, x, rfl, ⟨⟨⟨_, hv, hrow, hnil⟩, hbm⟩, hle, hB⟩, hge⟩
    · have hpl : pre.length < 1000000 := by omega
      gi_wp2_with (gi_at_builtin; refine wpListIn_append_own _ rfl (.tmp 15) (.tmp 17) 71 rfl (w.heap.size + 1) 3 i0 (.int .i64 0) 1 8 Try.underlying71 hi hz0 hz1 hz2 rfl (by decide) _ pre.length _ rfl (hrow.alloc _) ⟨W.heap.size, 0, none⟩ 1 1 [.int .i64 x] rfl rfl (cell_one_new _ _ _) (by simp [Value.oneCell']) (by unfold maxLen; omega) (by omega) (by have := hv.lt; rw [size_alloc]; omega) ?_; intro v' w1 hown' hgrow _; obtain ⟨g', cap', rfl⟩ := ownsRow_succ hown'; obtain ⟨hv1, hv2, hr2, hk2, hb2⟩ := hv.appended (by decide) hrow (Nat.le_of_lt hv.lt) (Nat.le_refl _) hown' hgrow; have hc1 := hv1.cell; have hf1 := hv1.frozen)
      have hbm2 : Boxed (w1.setCell ⟨w.heap.size + 1, 0, none⟩ (.slice (some ⟨g', 0, none⟩) (pre.length + 1) cap')) w.heap.size 3 (.int .i64 most) :=
        ((hbm.alloc _).kept hgrow (by
          intro he
          rcases hrow.2 with ⟨h1, _⟩ | ⟨g2, cap2, cur2, h1, h2, h3, _⟩
          · injection h1 with h1
            subst h1
            cases he
          · injection h1 with h1
            subst h1
            have he : w.heap.size = g2 := by injection he
            omega)).other (by omega) _
      exact ⟨hk2.from _, hb2.mono (Nat.le_succ _), ⟨⟨_, hv2, by simpa using hr2, by simp⟩, hbm2⟩, by rw [List.length_append, List.length_singleton]; omega, hB.trans (hb2.mono (Nat.le_succ _))⟩
  case done =>
    rintro Dd ys W hD rfl ⟨⟨⟨v, hv, hrow, hnil⟩, hbm⟩, hle, hB⟩ hK
    have hc := hv.cell
    gi_wp2_with fail
    refine ⟨by simp, .inl ⟨_, _, rfl, run_takeDeferred hK, ?_⟩⟩
    exact ⟨_, results_tmp rfl _ _ _, v, ys.length, rfl, by omega, by rw [List.take_length]; exact own_weaken (ownsRow_putObj hrow _ hK rfl) (Nat.le_succ _), hB.trans (belowK_b (w := w) (Nat.le_refl _) W Dd _ _ (by omega) hK rfl rfl)⟩
  case stop =>
    rintro Dd c pre W hD hpre ⟨rfl, p, x, rfl, ⟨⟨⟨v, hv, hrow, hnil⟩, hbm⟩, hle, hB⟩, hge⟩ hK
    have hc := hv.cell
    have hpl := hpre.length_le
    rw [List.length_append, List.length_singleton] at hpl
    have hpt : p = ns.take p.length := by
      obtain ⟨r, hr⟩ := hpre
      rw [← hr, List.append_assoc, List.take_left]
    gi_wp2_with fail
    refine ⟨by simp, .inl ⟨_, _, rfl, run_takeDeferred hK, ?_⟩⟩
    exact ⟨_, results_tmp rfl _ _ _, v, p.length, rfl, by omega, by rw [← hpt]; exact own_weaken (ownsRow_putObj hrow _ hK rfl) (Nat.le_succ _), hB.trans (belowK_b (w := w) (Nat.le_refl _) W Dd _ _ (by omega) hK rfl rfl)⟩
end Go.Proofs.Ytakodondlmiklaa.NW
