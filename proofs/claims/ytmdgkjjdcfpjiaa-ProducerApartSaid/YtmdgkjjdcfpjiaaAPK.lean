/- Who is known; two tables side by side. -/
import Derived.RangeFuncBox
import Derived.Shelf.Abstract
import Derived.Shelf.AbstractIn
import Derived.WalkKit
import Derived.OwnWalkIn
import Derived.TacticsInMore
import Derived.Lib.SlKeysI
import Derived.Test.YtmdgkjjdcfpjiaaSI
import Derived.Test.YtmdgkjjdcfpjiaaPW
namespace Go.Proofs.Ytmdgkjjdcfpjiaa.PT
open Go.RowKit Go.Maps Go.Sort Go.Shelf Go.Proofs.YtmdgkjjdcfpjiaaW.PrintWords Go.Proofs.YtmdgkjjdcfpjiaaW.PrintLast Go.Proofs.YtmdgkjjdcfpjiaaW.PrintMore Go.Proofs.Ytmdgkjjdcfpjiaa.PProducerOnce
set_option linter.unusedVariables false
set_option linter.unusedSimpArgs false
set_option maxRecDepth 100000

theorem sorts49 (m : Nat) : AnyZI.SortsIn Try.prog Try.sorted49_ren Fence.wide m :=
  ⟨fun blk off cap ss W hH hblk hsz => callsIn_wide.2 (AnyM.slices_Sort_int Try.sort79 blk off cap ss W hH hblk hsz),
   fun p cap W => callsIn_wide.2 (AnyM.slices_Sort_int_none Try.sort79 p cap W)⟩
theorem keys50_calls (mb : Option Nat) (W : World) : Calls Try.prog 50 #[.map mb] W fun e w' => e = .returned (.func (.func 80) #[] #[.pointer (some ⟨W.heap.size, 0, none⟩)]) ∧ w' = W.alloc (.cells #[.map mb] 88) :=
  callsIn_wide.1 (AnyZI.keys_in Try.keys50 Fence.wide 5 trivial rfl mb W)
set_option maxHeartbeats 1000000 in
theorem sorted49_calls {H : Type} (b nn : Nat) (D0 : DataW H) (R : Value → Option (DataW H × List MemPlace)) (w : World) (hown : w.ownsMap Try.prog 3 R b nn D0) (hmax : Maps.size D0 ≤ maxLen) (hbytes : Maps.size D0 * 8 ≤ 140737488355328) :
    Calls Try.prog 49 #[.func (.func 80) #[] #[.pointer (some ⟨w.heap.size, 0, none⟩)]] (w.alloc (.cells #[.map (some b)] 88)) fun e w' => ∃ (v : Value) (ss : List Int), e = .returned v ∧ ss.Perm (intKeys D0) ∧
      w'.ownsRow (w.alloc (.cells #[.map (some b)] 88)).heap.size 3 1 v ss.length ((ss.mergeSort (fun x y => decide (x ≤ y))).map encZ) ∧ (v = .slice none 0 0 ↔ ss = []) ∧ Below (w.alloc (.cells #[.map (some b)] 88)).heap.size (w.alloc (.cells #[.map (some b)] 88)) w' := by
  have hbl := hown.lt
  have hseq : SeqGives Fence.wide 2 Try.prog 80 #[.pointer (some ⟨w.heap.size, 0, none⟩)] encZ (fun ss => ss.Perm (intKeys D0)) (Maps.size D0) (w.alloc (.cells #[.map (some b)] 88)) :=
    AnyZI.keys_gives (ρ := Try.keys50_ren) { Try.keys50 with } Fence.wide _ trivial rfl (by omega) w.heap.size b nn D0 _ (by simp) (by simp) (by
      obtain ⟨es, clock, hb, Ft, hs, hD⟩ := hown
      exact ⟨es, clock, (Below.heap_alloc _ _ b hbl).trans hb, Ft, hs, hD⟩)
  exact callsIn_wide.1 (AnyZI.sorted_in Try.sorted49 Fence.wide 5 trivial trivial trivial trivial rfl (by omega) (sorts49 _) (enters_of Try.func79 (by kernel_rfl) rfl) 80 #[.pointer (some ⟨w.heap.size, 0, none⟩)] trivial (enters_of Try.func80 (by kernel_rfl) rfl) _ _ hmax hbytes _ hseq)
/-- Where one key alone is known, the map has one entry at most. -/
theorem size_one {W : World} {b n : Nat} {D : DataW Value} (hown : W.ownsMap Try.prog 3 held b n D) (id : Int) (h : ∀ k, (Lit.int .i64 k).wf = true → k ≠ id → Maps.has D (.int .i64 k) = false) : Maps.size D ≤ 1 := by
  obtain ⟨es, hD, hpw, hkeys⟩ := hown.entries law3
  obtain ⟨es', hD', hko⟩ := hown.keysOf
  obtain rfl : es = es' := by rw [hD] at hD'; simpa using hD'
  subst hD
  have hall : ∀ p ∈ es, p.1 = .int .i64 id := by
    intro p hp
    obtain ⟨v, hv⟩ := hko p hp
    obtain ⟨x, _, hx, hwx⟩ := Maps.keyOf_i64 Try.underlying3 hv
    by_cases e : x = id
    · rw [hx, e]
    · have h1 := h x hwx e
      have h2 : Maps.has (DataW.map es) (.int .i64 x) = true := List.any_eq_true.2 ⟨p, hp, by rw [hx]; exact WideAt.sameKey_self trivial⟩
      rw [h1] at h2
      cases h2
  match es, hpw, hall with
  | [], _, _ => exact Nat.zero_le _
  | [p], _, _ => exact Nat.le_refl _
  | p :: q :: r, hpw, hall =>
    have h1 := hall p (by simp)
    have h2 := hall q (by simp)
    exact absurd (h1.trans h2.symm) ((List.pairwise_cons.1 hpw).1 q (by simp))
set_option maxHeartbeats 4000000 in
theorem known_calls {w0 w : World} {g b N : Nat} {f : Tab} (h : IsPT w0 w g b N f) (id : Int) (hf : ∀ q, q ≠ id → f q = none) :
    Calls Try.prog 27 #[.pointer (some ⟨g, 0, none⟩)] w fun e w' => ∃ A c k, e = .returned (.slice A k c) ∧ k ≤ 1 ∧ Below w.heap.size w w' := by
  obtain ⟨h1, h2, h3, D, hown, h7⟩ := h
  have hs := size_one hown id (fun k hk hne => by have := h7 k hk; rw [hf k hne] at this; exact this)
  have x0 : w.cell? ⟨g, 0, none⟩ = some (.map (some b)) := (blk_cell h1 0).trans rfl
  clear h1 h7
  go_enter Try.func27, Try.ntmps27
  go_wp2_with fail
  refine (keys50_calls _ _).mono ?_
  rintro e w1 ⟨rfl, rfl⟩
  go_wp2_with fail
  refine (sorted49_calls b N D held w hown (by unfold maxLen; omega) (by omega)).mono ?_
  rintro e w2 ⟨v, ss, rfl, hS, hrow, hnil, hb⟩
  obtain ⟨A, c, rfl⟩ := own_slice hrow
  have hl : ss.length = Maps.size D := by
    obtain ⟨es, rfl, _, _⟩ := hown.entries law3
    rw [hS.length_eq]
    simp [intKeys, Maps.size]
  go_wp2_with fail
  go_ret
  exact ⟨A, c, _, rfl, by omega, (below_alloc (Below.refl _ _) _).trans (hb.mono (by rw [size_alloc]; omega))⟩
theorem keepB_of {w0 W W1 : World} {g b N b2 : Nat} {f : Tab} (h : IsPT w0 W g b N f) {g2 N2 : Nat} {f2 : Tab} (h2 : IsPT w0 W g2 b2 N2 f2) (hne : b2 ≠ b) (hk : KeepB W W1 b) : IsPT w0 W1 g2 b2 N2 f2 := by
  obtain ⟨g1, g3, g4, D, ⟨es, clock, hb, _⟩, _⟩ := h
  refine h2.grown (row := some b) ⟨hk.1, hk.2.1, hk.2.2.1, hk.2.2.2.1, fun k h1 h3 => hk.2.2.2.2 k h1 (by simpa using h3)⟩ ?_ (by simpa using hne) ?_
  · intro he
    injection he with he
    have := h2.1
    rw [he, hb] at this
    cases this
  · rintro q ⟨cs, hq⟩ he
    injection he with he
    rw [he, hb] at hq
    cases hq

/-! What Add does at one producer hangs on this producer alone. -/
theorem check_at {f g : Tab} {p : Int} (h : f p = g p) (ep seq n : Int) : checkT f p ep seq n = checkT g p ep seq n := by unfold checkT; rw [h]
theorem one_at {f g : Tab} {p : Int} (h : f p = g p) (ep seq n base : Int) : oneT f p ep seq n base = oneT g p ep seq n base := by unfold oneT; rw [h]
theorem add_at {f g : Tab} {p : Int} (h : f p = g p) (ep seq n base : Int) : (addT f p ep seq n base).1 = (addT g p ep seq n base).1 ∧ (addT f p ep seq n base).2 p = (addT g p ep seq n base).2 p := by
  unfold addT
  rw [check_at h, one_at h]
  by_cases h1 : p ≤ 0
  · simp [h1, h]
  by_cases h2 : (checkT g p ep seq n).2.2 ≠ 0
  · simp [h1, h2, h]
  by_cases h3 : (checkT g p ep seq n).2.1 = true
  · rw [if_neg h1, if_neg h2, if_pos h3, if_neg h1, if_neg h2, if_pos h3]; exact ⟨rfl, h⟩
  by_cases h4 : n = 0
  · rw [if_neg h1, if_neg h2, if_neg h3, if_pos h4, if_neg h1, if_neg h2, if_neg h3, if_pos h4]; exact ⟨rfl, h⟩
  rw [if_neg h1, if_neg h2, if_neg h3, if_neg h4, if_neg h1, if_neg h2, if_neg h3, if_neg h4]
  exact ⟨rfl, by simp⟩
theorem add_else (f : Tab) (p ep seq n base : Int) {q : Int} (hq : q ≠ p) : (addT f p ep seq n base).2 q = f q := by
  unfold addT
  split
  · rfl
  split
  · rfl
  split
  · rfl
  split
  · rfl
  simp [hq]
theorem next_at {f g : Tab} {p : Int} (h : f p = g p) : nextT f p = nextT g p := by unfold nextT; rw [h]
end Go.Proofs.Ytmdgkjjdcfpjiaa.PT
