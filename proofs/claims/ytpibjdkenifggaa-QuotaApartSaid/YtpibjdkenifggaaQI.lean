/- Who is known, one behind the other: the iterator of a quota's clients. -/
import Derived.RangeFuncBox
import Derived.RangeFuncNested
import Derived.RangeFuncBound
import Derived.RangeFuncCalls
import Derived.RangeFuncLeaves
import Derived.Shelf.Abstract
import Derived.Shelf.RegionOpen
import Derived.Shelf.AbstractIn
import Derived.WalkKit
import Derived.OwnWalkIn
import Derived.TacticsInMore
import Derived.LoopNIn
import Derived.LoopIn
import Derived.Maps.OwnIn
import Derived.Maps.AppendAt
import Derived.Test.YtpibjdkenifggaaSH
import Derived.Test.YtpibjdkenifggaaQS
namespace Go.Proofs.Ytpibjdkenifggaa.QU
open Go.RowKit Go.Maps Go.Sort Go.Shelf Go.Proofs.YtpibjdkenifggaaW.PrintWords Go.Proofs.YtpibjdkenifggaaW.PrintLast Go.Proofs.YtpibjdkenifggaaW.PrintMore
set_option linter.unusedVariables false
set_option linter.unusedSimpArgs false
set_option maxRecDepth 100000
attribute [local go_sem] Oper.semAt_some

theorem sorts77 (m : Nat) : AnyZ.SortsIn Try.prog Try.sorted77_ren Fence.wide m :=
  ⟨fun blk off cap ss W hH hblk hsz => callsIn_wide.2 (AnyM.slices_Sort_string Try.sort82 blk off cap ss W hH hblk hsz),
   fun p cap W => callsIn_wide.2 (AnyM.slices_Sort_string_none Try.sort82 p cap W)⟩
theorem keys80_in (mb : Option Nat) (W : World) : CallsIn Fence.wide 5 Try.prog 80 #[.map mb] W fun e w' => e = .returned (.func (.func 84) #[] #[.pointer (some ⟨W.heap.size, 0, none⟩)]) ∧ w' = W.alloc (.cells #[.map mb] 98) :=
  AnyZ.keys_in Try.keys80 Fence.wide 5 trivial rfl mb W
set_option maxHeartbeats 1000000 in
theorem sorted80_in {H : Type} (b nn : Nat) (D0 : DataW H) (R : Value → Option (DataW H × List MemPlace)) (w : World) (hown : w.ownsMap Try.prog 9 R b nn D0) (hmax : Maps.size D0 ≤ maxLen) (hbytes : Maps.size D0 * 16 ≤ 140737488355328) :
    CallsIn Fence.wide 5 Try.prog 77 #[.func (.func 84) #[] #[.pointer (some ⟨w.heap.size, 0, none⟩)]] (w.alloc (.cells #[.map (some b)] 98)) fun e w' => ∃ (v : Value) (ss : List (List UInt8)), e = .returned v ∧ ss.Perm (strKeys D0) ∧
      w'.ownsRow (w.alloc (.cells #[.map (some b)] 98)).heap.size 9 1 v ss.length ((ss.mergeSort (fun x y => decide (x ≤ y))).map encStr) ∧ (v = .slice none 0 0 ↔ ss = []) ∧ Below (w.alloc (.cells #[.map (some b)] 98)).heap.size (w.alloc (.cells #[.map (some b)] 98)) w' := by
  have hbl := hown.lt
  have hseq : SeqGives Fence.wide 2 Try.prog 84 #[.pointer (some ⟨w.heap.size, 0, none⟩)] encStr (fun ss => ss.Perm (strKeys D0)) (Maps.size D0) (w.alloc (.cells #[.map (some b)] 98)) :=
    AnyZ.keys_gives (ρ := Try.keys80_ren) { Try.keys80 with } Fence.wide _ trivial rfl (by omega) w.heap.size b nn D0 _ (by simp) (by simp) (by
      obtain ⟨es, clock, hb, Ft, hs, hD⟩ := hown
      exact ⟨es, clock, (Below.heap_alloc _ _ b hbl).trans hb, Ft, hs, hD⟩)
  exact AnyZ.sorted_in Try.sorted77 Fence.wide 5 trivial trivial trivial trivial rfl (by omega) (sorts77 _) (enters_of Try.func82 (by kernel_rfl) rfl) 84 #[.pointer (some ⟨w.heap.size, 0, none⟩)] trivial (enters_of Try.func84 (by kernel_rfl) rfl) _ _ hmax hbytes _ hseq
/-- The block of the row that a box holds. -/
def blkOf (B : Nat) (W : World) : Option Nat := match W.cell? ⟨B, 0, none⟩ with | some v => v.ownBlock | none => none
/-- What a round keeps: all cells but a box, and the row that it holds. -/
structure Kq (n₀ B : Nat) (W W' : World) : Prop where
  below : Below n₀ W W'
  kept : ∀ k cs t fz, W.heap[k]? = some (.cells cs t fz) → k ≠ B → some k ≠ blkOf B W → W'.heap[k]? = some (.cells cs t fz)
  row : blkOf B W' = blkOf B W ∨ ∃ b, blkOf B W' = some b ∧ W.heap.size ≤ b
theorem Kq.refl (n₀ B : Nat) (W : World) : Kq n₀ B W W := ⟨Below.refl _ _, fun _ _ _ _ h _ _ => h, .inl rfl⟩
theorem Kq.trans {n₀ B : Nat} {X Y Z : World} (h : Kq n₀ B X Y) (k : Kq n₀ B Y Z) : Kq n₀ B X Z := by
  refine ⟨h.below.trans k.below, fun i cs t fz hi h1 h2 => k.kept i cs t fz (h.kept i cs t fz hi h1 h2) h1 ?_, ?_⟩
  · rcases h.row with e | ⟨b, e, hb⟩
    · rw [e]; exact h2
    · rw [e]
      intro he
      injection he with he
      have := blk_lt hi
      omega
  · rcases k.row with e | ⟨b, e, hb⟩
    · rcases h.row with e' | ⟨b', e', hb'⟩
      · exact .inl (e.trans e')
      · exact .inr ⟨b', e.trans e', hb'⟩
    · exact .inr ⟨b, e, Nat.le_trans h.below.size hb⟩
theorem Kq.putObj {n₀ B : Nat} {w : World} (hn : n₀ ≤ w.heap.size) (hB : B < w.heap.size) (W : World) (l : Nat) (o o' : Obj) (hl : w.heap.size ≤ l) (h : W.heap[l]? = some o) (ho : o.isCells = false) (hw : o.isWalk = false) : Kq n₀ B W (W.putObj l o') := by
  have hg := grownBy_putObj' W l o'
  have hlt := blk_lt h
  have e : (W.putObj l o').cell? ⟨B, 0, none⟩ = W.cell? ⟨B, 0, none⟩ := World.cell?_of_block (w := W) (hg.block B (by omega) (by intro he; injection he with he; omega))
  refine ⟨belowK_b hn W l o o' hl h ho hw, fun k cs t fz hk _ _ => (hg.block k (blk_lt hk) ?_).trans hk, .inl (by unfold blkOf; rw [e])⟩
  intro he
  injection he with he
  subst he
  rw [hk] at h
  cases h
  cases ho
/-- The sorted keys. -/
def srt {H : Type} (D : DataW H) : List (List UInt8) := (strKeys D).mergeSort (fun x y => decide (x ≤ y))
theorem srt_of {H : Type} {D : DataW H} {ss : List (List UInt8)} (h : ss.Perm (strKeys D)) : ss.mergeSort (fun x y => decide (x ≤ y)) = srt D := mergeSort_of_perm h
theorem info9 : (Try.prog.info? 9).map (fun i => (i.zero, i.size, i.bytes)) = some (some (.string ⟨#[]⟩), 1, 16) := by kernel_rfl
theorem srt_len {W : World} {b nn : Nat} {D : DataW Value} (hown : W.ownsMap Try.prog 9 heldQ b nn D) : Maps.size D = (srt D).length := by
  obtain ⟨es0, rfl, hap, hkeys⟩ := hown.entries law9
  unfold srt
  rw [List.length_mergeSort]
  simp [Maps.size, strKeys]
set_option maxHeartbeats 2000000 in
theorem cl_in (n : Nat) (hn : 7 ≤ n) (l Bq n₀ B g b nn : Nat) (D : DataW Value) (J Jx : List (List UInt8) → World → Prop) (W : World)
    (hJ : AbidesFrom W.heap.size J)
    (hY : ∀ pre x W1, J pre W1 → pre.length < (srt D).length → YieldAt Fence.wide (n - 1) Try.prog l #[encStr x] W1 fun e W' =>
      (e = .returned (.bool true) ∧ J (pre ++ [x]) W' ∧ Kq n₀ B W1 W') ∨ (e = .returned (.bool false) ∧ Jx (pre ++ [x]) W'))
    (hBq : W.cell? ⟨Bq, 0, none⟩ = some (.pointer (some ⟨g, 0, none⟩))) (hg : W.cell? ⟨g, 4, none⟩ = some (.map (some b))) (hown : W.ownsMap Try.prog 9 heldQ b nn D) (hmax : Maps.size D ≤ 1000000)
    (hBW : B < W.heap.size) (hblk : ∀ k, blkOf B W = some k → k < W.heap.size) (h0 : J [] W) :
    CallsIn Fence.wide n Try.prog 79 #[.func (.yield l) #[] #[], .pointer (some ⟨Bq, 0, none⟩)] W fun e W' => (∃ v, e = .returned v) ∧ ((∃ xs, xs = srt D ∧ J xs W') ∨ (∃ pre, pre <+: srt D ∧ Jx pre W')) := by
  have hfK : Fence.wide.fn 80 := trivial
  have hfS : Fence.wide.fn 77 := trivial
  have hfY : Fence.wide.fn 79 := trivial
  have hm1 : Maps.size D ≤ maxLen := by unfold maxLen; omega
  have hm2 : Maps.size D * 16 ≤ 140737488355328 := by omega
  have hlen2 : Maps.size D = (srt D).length := by
    obtain ⟨es0, rfl, hap, hkeys⟩ := hown.entries law9
    unfold srt
    rw [List.length_mergeSort]
    simp [Maps.size, strKeys]
  refine callsIn_of_wp Try.func79 rfl hfY ?_ rfl
  simp only [Try.ntmps79, List.size_toArray, List.length_cons, List.length_nil, Nat.reduceAdd, Nat.reduceSub, Array.replicate_succ, Array.replicate_zero, List.push_toArray, List.append_toArray, List.nil_append, List.cons_append]
  gi_wp2_with fail
  refine ⟨fun _ => by omega, ?_⟩
  refine (callsIn_wide.2 (callsIn_wide.1 (keys80_in (some b) W))).mono ?_
  rintro e w1 ⟨rfl, rfl⟩
  gi_wp2_with fail
  refine ⟨fun _ => by omega, ?_⟩
  refine (callsIn_wide.2 (callsIn_wide.1 (sorted80_in b nn D heldQ W hown hm1 hm2))).mono ?_
  rintro e w2 ⟨v, ss, rfl, hS, hrow, hnil, hb⟩
  have hB2 : Below W.heap.size W w2 := (below_alloc (Below.refl _ _) _).trans (hb.mono (by rw [size_alloc]; omega))
  have hlen : ss.length = (srt D).length := by rw [← srt_of hS]; simp
  rw [srt_of hS] at hrow
  have hJ2 : J [] w2 := hJ [] W w2 none h0 (grown_of hB2 none) (fun r e => by cases e)
  have hk2 : blkOf B w2 = blkOf B W := by unfold blkOf; rw [hB2.cell (p := ⟨B, 0, none⟩) hBW]
  rw [hlen] at hrow
  have hsz2 : W.heap.size + 1 ≤ w2.heap.size := by have := hb.size; rw [size_alloc] at this; exact this
  -- the sorted keys' cells, wherever a round keeps its word
  have hcells : ∃ A c, v = .slice A (srt D).length c ∧ ∀ wr, Kq n₀ B w2 wr → ∀ k, k < (srt D).length → ∃ ad, A = some ad ∧ wr.cell? (ad.add k) = some (encStr ((srt D).getD k [])) := by
    rcases hrow.2 with ⟨rfl, h0'⟩ | ⟨s, cap, cur, rfl, hs, hh, hrest⟩
    · exact ⟨none, 0, by rw [h0'], fun wr _ k hk => by omega⟩
    · refine ⟨some ⟨s, 0, none⟩, cap, rfl, fun wr hq k hk => ⟨_, rfl, ?_⟩⟩
      rw [size_alloc] at hs
      have hhr := hq.kept s cur 9 (0, 0) hh (by omega) (by rw [hk2]; intro he; have := hblk s he.symm; omega)
      have hcc : cur[k]? = some (encStr ((srt D).getD k [])) := by
        have h1 := hrest.2.2.2
        have h2 : (cur.toList.take ((srt D).length * 1))[k]? = ((srt D).map encStr)[k]? := by rw [h1]
        rw [Nat.mul_one, List.getElem?_take_of_lt hk] at h2
        rw [← Array.getElem?_toList, h2]
        simp [List.getD, hk]
      have ha : (⟨s, 0, none⟩ : Addr).add k = ⟨s, k, none⟩ := by
        unfold Addr.add
        split
        · rename_i h; subst h; rfl
        · simp
      rw [ha]
      exact (blk_cell hhr k).trans hcc
  obtain ⟨A, c, rfl, hcell⟩ := hcells
  clear hrow hnil hS hb
  have HC := Aside0.mk hcell
  clear hcell
  gi_wp2_with fail
  have hlm : (srt D).length ≤ 1000000 := by rw [← hlen2]; exact hmax
  gi_loopw [14] (fun i wr => ∃ k : Nat, k ≤ (srt D).length ∧ i = .int .i64 (k : Int) ∧ J ((srt D).take k) wr ∧ Kq n₀ B w2 wr)
    (fun i _ => (srt D).length - (intOf i).toNat)
  case atStart => exact ⟨0, Nat.zero_le _, rfl, by rw [List.take_zero]; exact hJ2, Kq.refl _ _ _⟩
  case round =>
    obtain ⟨k, hk, rfl, hJs, hq⟩ := hrel
    by_cases hlt : k < (srt D).length
    · obtain ⟨ad, rfl, hcx⟩ := HC.out _ hq k hlt
      obtain ⟨fn, tmps, assign, body, hy, hR⟩ := hY _ ((srt D).getD k []) wr hJs (by rw [List.length_take]; omega)
      have hts : (srt D).take k ++ [(srt D).getD k []] = (srt D).take (k + 1) := by
        rw [List.take_succ_eq_append_getElem hlt]
        congr 2
        simp [List.getD, hlt]
      rw [hts] at hR
      generalize (srt D).getD k [] = x at hcx hy
      gi_wp2_with fail
      refine ⟨fun _ => by omega, ?_⟩
      refine hR.mono ?_
      rintro e W3 (⟨rfl, hJ3, hk3⟩ | ⟨rfl, hJx3⟩)
      · gi_wp2_with fail
        go_roundw
        case rel => exact ⟨k + 1, hlt, rfl, hJ3, hq.trans hk3⟩
        case measure =>
          show (srt D).length - ((k : Int) + 1).toNat < (srt D).length - ((k : Int)).toNat
          omega
      · gi_wp2_with fail
        refine bodyPost_ret (results_none rfl _ _ _) rfl ?_
        exact ⟨⟨_, rfl⟩, .inr ⟨_, List.take_prefix _ _, hJx3⟩⟩
    · obtain rfl : k = (srt D).length := by omega
      gi_wp2_with fail
      go_end0
      exact ⟨⟨_, rfl⟩, .inl ⟨_, rfl, by rw [List.take_length] at hJs; exact hJs⟩⟩
/-- Clients hands back a value that may be stopped. -/
theorem cl_stops (n : Nat) (hn : 7 ≤ n) (Bq n₀ B g b nn : Nat) (D : DataW Value) (w : World)
    (hBq : w.cell? ⟨Bq, 0, none⟩ = some (.pointer (some ⟨g, 0, none⟩))) (hg : w.cell? ⟨g, 4, none⟩ = some (.map (some b))) (hown : w.ownsMap Try.prog 9 heldQ b nn D) (hmax : Maps.size D ≤ 1000000)
    (hBW : B < w.heap.size) (hblk : ∀ k, blkOf B w = some k → k < w.heap.size) :
    SeqStopsK Fence.wide n Try.prog 79 #[.pointer (some ⟨Bq, 0, none⟩)] (fun x : List UInt8 => #[encStr x]) (Kq n₀ B) (fun xs => xs = srt D) (fun pre => pre <+: srt D) (srt D).length w := fun l J Jx W hW hJ _ hY h0 => by
  have e1 := hW.cell (p := ⟨Bq, 0, none⟩) (World.block_lt_of_cell? _ _ hBq)
  have e2 := hW.cell (p := ⟨g, 4, none⟩) (World.block_lt_of_cell? _ _ hg)
  have e3 := hW.cell (p := ⟨B, 0, none⟩) hBW
  have hsz := hW.size
  exact cl_in n hn l Bq n₀ B g b nn D J Jx W hJ hY (e1.trans hBq) (e2.trans hg) (ownsB hown hW) hmax (by omega) (fun k hk => by
    unfold blkOf at hk hblk
    rw [e3] at hk
    have := hblk k hk
    omega) h0
set_option maxHeartbeats 2000000 in
theorem clients_in (n : Nat) (p : Option Addr) (w : World) : CallsIn Fence.wide n Try.prog 68 #[.pointer p] w fun e w' => e = .returned (.func (.func 79) #[] #[.pointer (some ⟨w.heap.size, 0, none⟩)]) ∧ w' = w.alloc (.cells #[.pointer p] 49) := by
  refine callsIn_of_wp Try.func68 rfl trivial ?_ rfl
  simp only [Try.ntmps68, List.size_toArray, List.length_cons, List.length_nil, Nat.reduceAdd, Nat.reduceSub, Array.replicate_succ, Array.replicate_zero, List.push_toArray, List.append_toArray, List.nil_append, List.cons_append]
  gi_wp2
  go_ret
  exact ⟨rfl, rfl⟩
theorem cmp_nil (a : Value) (W : World) : (binOp .eql 137 (.func (.func 79) #[] #[a]) .nilFunc).run Try.prog W = .ok (.bool false) W := by kernel_rfl
/-- The row of those who came. -/
def HasRow (n₀ B : Nat) (pre : List (List UInt8)) (W : World) : Prop := ∃ v, Boxed W B 87 v ∧ W.ownsRow n₀ 9 1 v pre.length (pre.map encStr) ∧ (v = .slice none 0 0 ↔ pre = [])
set_option maxHeartbeats 4000000 in
theorem walk_in (n : Nat) (hn : 9 ≤ n) {w : World} {g b nn : Nat} {rate burst mst now most : Int} {D : DataW Value} (hI : IsQ w g b rate burst mst now nn D) (hmax : Maps.size D ≤ 1000000) (hm : 0 ≤ most) :
    CallsIn Fence.wide n Try.prog 47 #[.pointer (some ⟨g, 0, none⟩), .int .i64 most] w fun e w' => ∃ (v : Value) (k : Nat), e = .returned v ∧ (k : Int) = min most ((srt D).length : Int) ∧ w'.ownsRow w.heap.size 9 1 v k (((srt D).take k).map encStr) ∧ Below w.heap.size w w' := by
  have hf : Fence.wide.fn 68 := trivial
  obtain ⟨i0, hi, hz0, hz1, hz2⟩ := info_parts info9
  have hlen2 := srt_len hI.own
  have hblt := hI.own.lt
  have hglt := blk_lt hI.blk
  refine callsIn_of_wp_marks Try.func47 rfl trivial ?_ rfl
  simp only [Try.ntmps47, List.size_toArray, List.length_cons, List.length_nil, Nat.reduceAdd, Nat.reduceSub, Array.replicate_succ, Array.replicate_zero, List.push_toArray, List.append_toArray, List.nil_append, List.cons_append]
  gi_wp2_with fail
  refine ⟨fun _ => by omega, ?_⟩
  refine (clients_in _ _ _).mono ?_
  rintro e w1 ⟨rfl, rfl⟩
  have hcmp := cmp_nil
  gi_wp2_with fail
  obtain ⟨W0, hW0⟩ : ∃ W0, (((w.alloc (Obj.cells #[Value.int IntKind.i64 most] 3)).alloc (Obj.cells #[Value.slice none 0 0] 87)).alloc (Obj.cells #[Value.pointer (some ⟨g, 0, none⟩)] 49)) = W0 := ⟨_, rfl⟩
  have bM : Boxed W0 w.heap.size 3 (.int .i64 most) := by rw [← hW0]; exact ((Boxed.new w _ _).alloc _).alloc _
  have bL : Boxed W0 (w.heap.size + 1) 87 (.slice none 0 0) := by
    have := Boxed.new (w.alloc (Obj.cells #[Value.int IntKind.i64 most] 3)) 87 (.slice none 0 0)
    rw [size_alloc] at this
    rw [← hW0]
    exact this.alloc _
  have bQ : Boxed W0 (w.heap.size + 1 + 1) 49 (.pointer (some ⟨g, 0, none⟩)) := by
    have := Boxed.new ((w.alloc (Obj.cells #[Value.int IntKind.i64 most] 3)).alloc (Obj.cells #[Value.slice none 0 0] 87)) 49 (.pointer (some ⟨g, 0, none⟩))
    rw [size_alloc, size_alloc] at this
    rw [← hW0]
    exact this
  have hB0 : Below w.heap.size w W0 := by rw [← hW0]; exact below_alloc (below_alloc (below_alloc (Below.refl _ _) _) _) _
  have hsz : W0.heap.size = w.heap.size + 3 := by rw [← hW0, size_alloc, size_alloc, size_alloc]
  rw [hW0]
  clear hW0
  have hg4 : W0.cell? ⟨g, 4, none⟩ = some (.map (some b)) := (blk_cell ((hB0.block g hglt).trans hI.blk) 4).trans rfl
  have hblk0 : blkOf (w.heap.size + 1) W0 = none := by unfold blkOf; rw [bL.cell]; rfl
  have hOwn : OwnFrom W0.heap.size (fun pre W => (HasRow w.heap.size (w.heap.size + 1) pre W ∧ Boxed W w.heap.size 3 (.int .i64 most)) ∧ ((pre.length : Int) ≤ most ∧ Below w.heap.size w W)) :=
    OwnFrom.and (OwnFrom.and (Own.from (holdsRow_own w.heap.size (w.heap.size + 1) 87 9 1 (fun pre => pre.length) (fun pre => pre.map encStr) (fun pre v => v = .slice none 0 0 ↔ pre = [])) _) (Own.from (boxed_own _ _ _) _)) (OwnFrom.and (ownFrom_pure _ _) (ownFrom_below (Nat.le_refl _) (by omega)))
  refine wpIn_rangeFunc_ownG rfl (by omega) (gf := 79) (lb := #[.pointer (some ⟨w.heap.size + 1 + 1, 0, none⟩)]) rfl trivial (enters_of Try.func79 (by kernel_rfl) rfl)
    (cl_stops (n - 1) (by omega) (w.heap.size + 1 + 1) w.heap.size (w.heap.size + 1) g b nn D W0 bQ.cell hg4 (ownsB hI.own hB0) hmax (by omega) (fun k hk => by rw [hblk0] at hk; cases hk)) Kq.trans (Kq.putObj (by omega) (by omega)) (Below.refl _ _) (fun _ => rfl)
    (fun pre W => (HasRow w.heap.size (w.heap.size + 1) pre W ∧ Boxed W w.heap.size 3 (.int .i64 most)) ∧ ((pre.length : Int) ≤ most ∧ Below w.heap.size w W))
    (fun c pre W => c = .exit 0 ∧ ∃ p x, pre = p ++ [x] ∧ ((HasRow w.heap.size (w.heap.size + 1) p W ∧ Boxed W w.heap.size 3 (.int .i64 most)) ∧ ((p.length : Int) ≤ most ∧ Below w.heap.size w W)) ∧ most ≤ p.length)
    hOwn
    (fun c s X Y row hs hg hr => by obtain ⟨hc, p, x, e, hi, hm'⟩ := hs; exact ⟨hc, p, x, e, hOwn p X Y row hi hg hr, hm'⟩)
    ⟨⟨⟨_, bL, World.ownsRow_nil _ _ _ _, by simp⟩, bM⟩, hm, hB0⟩
    (fun x => { tmps := #[.pointer (some ⟨g, 0, none⟩), .int .i64 most, undef, .pointer (some ⟨w.heap.size, 0, none⟩), .slice none 0 0, .pointer (some ⟨w.heap.size + 1, 0, none⟩), .func (.func 79) #[] #[.pointer (some ⟨w.heap.size + 1 + 1, 0, none⟩)], encStr x, .pointer (some ⟨g, 0, none⟩), .func (.func 79) #[] #[.pointer (some ⟨w.heap.size + 1 + 1, 0, none⟩)], .func (.func 79) #[] #[.pointer (some ⟨w.heap.size + 1 + 1, 0, none⟩)], .bool false, .func (.func 79) #[] #[.pointer (some ⟨w.heap.size + 1 + 1, 0, none⟩)], encStr x, undef, undef, undef, undef, undef, undef, undef, undef, undef], defers := [] }) ?assign ?body ?done ?stop
  case assign =>
    intro l x W K hK
    gi_wp2
    exact hK
  case body =>
    rintro l pre x W ⟨⟨⟨v, hv, hrow, hnil⟩, hbm⟩, hle, hB⟩ hlt
    obtain ⟨A, c, rfl⟩ := own_slice hrow
    have hc := hv.cell
    have hmc := hbm.cell
    by_cases hge : most ≤ pre.length
    · gi_wp2_with fail
      exact ⟨KeepsFrom.refl _ _, rfl, pre, x, rfl, ⟨⟨⟨_, hv, hrow, hnil⟩, hbm⟩, hle, hB⟩, hge⟩
    · have hpl : pre.length < 1000000 := by rw [← hlen2] at hlt; omega
      gi_wp2_with (gi_at_builtin; refine wpListIn_append_own_at _ rfl (.tmp 18) (.tmp 20) 87 rfl w.heap.size 9 i0 (.string ⟨#[]⟩) 1 16 Try.underlying87 hi hz0 hz1 hz2 rfl (by decide) _ pre.length _ rfl (hrow.alloc _) ⟨W.heap.size, 0, none⟩ 1 1 [encStr x] rfl rfl (cell_one_new _ _ _) (by simp [Value.oneCell', encStr]) (by unfold maxLen; omega) (by omega) (by have := hB.size; rw [size_alloc]; omega) ?_; intro v' w1 hown' hgrow _ hat; obtain ⟨g', cap', rfl⟩ := ownsRow_succ hown'; obtain ⟨hv1, hv2, hr2, hk2, hb2⟩ := hv.appended (by decide) hrow hB.size (Nat.le_succ _) hown' hgrow; have hc1 := hv1.cell; have hf1 := hv1.frozen)
      have hq : Kq w.heap.size (w.heap.size + 1) W (w1.setCell ⟨w.heap.size + 1, 0, none⟩ (.slice (some ⟨g', 0, none⟩) (pre.length + 1) cap')) := by
        have e1 : blkOf (w.heap.size + 1) W = (Value.slice A pre.length c).ownBlock := by unfold blkOf; rw [hv.cell]
        have e2 : blkOf (w.heap.size + 1) (w1.setCell ⟨w.heap.size + 1, 0, none⟩ (.slice (some ⟨g', 0, none⟩) (pre.length + 1) cap')) = some g' := by unfold blkOf; rw [hv2.cell]; rfl
        refine ⟨hb2, fun k cs t fz hk hkB hkr => ?_, ?_⟩
        · rw [e1] at hkr
          have hlt2 := blk_lt hk
          refine (Below.heap_setCell w1 ⟨w.heap.size + 1, 0, none⟩ _ k hkB).trans ((hgrow.block k (by rw [size_alloc]; omega) hkr).trans ((Below.heap_alloc W _ k hlt2).trans hk))
        · rw [e1, e2]
          rcases hat with h | h
          · exact .inl h
          · refine .inr ⟨g', rfl, ?_⟩
            injection h with h
            have h : g' = (W.alloc (.cells #[encStr x] 9)).heap.size := h
            rw [size_alloc] at h
            omega
      have hbm2 : Boxed (w1.setCell ⟨w.heap.size + 1, 0, none⟩ (.slice (some ⟨g', 0, none⟩) (pre.length + 1) cap')) w.heap.size 3 (.int .i64 most) :=
        ((((hbm.alloc _).kept hgrow (hbm.not_row (by decide) hrow))).other (by omega) _)
      exact ⟨hk2.from _, hq, ⟨⟨_, hv2, by simpa using hr2, by simp⟩, hbm2⟩, by rw [List.length_append, List.length_singleton]; omega, hB.trans hb2⟩
  case done =>
    rintro Dd ys W hD rfl ⟨⟨⟨v, hv, hrow, hnil⟩, hbm⟩, hle, hB⟩ hK
    have hc := hv.cell
    gi_wp2_with fail
    refine ⟨by simp, .inl ⟨_, _, rfl, run_takeDeferred hK, ?_⟩⟩
    exact ⟨_, results_tmp rfl _ _ _, v, (srt D).length, rfl, by omega, by rw [List.take_length]; exact ownsRow_putObj hrow _ hK rfl, hB.trans (belowK_b (w := w) (Nat.le_refl _) W Dd _ _ (by omega) hK rfl rfl)⟩
  case stop =>
    rintro Dd c pre W hD hpre ⟨rfl, p, x, rfl, ⟨⟨⟨v, hv, hrow, hnil⟩, hbm⟩, hle, hB⟩, hge⟩ hK
    have hc := hv.cell
    have hpl := hpre.length_le
    rw [List.length_append, List.length_singleton] at hpl
    have hpt : p = (srt D).take p.length := by
      obtain ⟨r, hr⟩ := hpre
      rw [← hr, List.append_assoc, List.take_left]
    gi_wp2_with fail
    refine ⟨by simp, .inl ⟨_, _, rfl, run_takeDeferred hK, ?_⟩⟩
    exact ⟨_, results_tmp rfl _ _ _, v, p.length, rfl, by omega, by rw [← hpt]; exact ownsRow_putObj hrow _ hK rfl, hB.trans (belowK_b (w := w) (Nat.le_refl _) W Dd _ _ (by omega) hK rfl rfl)⟩
end Go.Proofs.Ytpibjdkenifggaa.QU
