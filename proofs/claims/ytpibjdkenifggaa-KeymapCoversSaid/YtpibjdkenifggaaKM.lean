/- A map of offsets by keys, behind a pointer: what its methods do, told by its datum. -/
import Derived.Test.YtpibjdkenifggaaWMore
import Derived.Test.YtpibjdkenifggaaProg
import Derived.Maps.OwnSet
import Derived.Maps.OwnOps
import Derived.WalkSpells
import Derived.Carry
import Derived.RegionTactic
import Derived.Deep.QuietTactic
import Derived.BigQuiet
import Derived.ChangeAlike
import Derived.StringKeys
namespace Go.Proofs.Ytpibjdkenifggaa.KM
open Go.RowKit Go.Maps Go.MapKept Go.ChangeMaps Go.WideElems Go.WideMaps Go.WideShapes Go.Proofs.YtpibjdkenifggaaW.PrintWords Go.Proofs.YtpibjdkenifggaaW.PrintLast Go.Proofs.YtpibjdkenifggaaW.PrintMore
set_option linter.unusedVariables false

theorem law9 : Keyed Try.prog 9 := string_keyed Try.underlying9
theorem zero3 (w : World) : (zeroValue 3).run Try.prog w = .ok (.int .i64 0) w := by kernel_rfl
/-- What a key reads as. -/
def kl (l : List Int) : Lit := .string (strOfNums l).data.toList
theorem key_of {l : List Int} (h : l.length ≤ 9223372036854775807) : keyOf Try.prog 9 (.string (strOfNums l)) = some (kl l) :=
  keyOf_string_mk Try.underlying9 (by rw [strOfNums_size]; exact h)

set_option maxHeartbeats 4000000 in
set_option maxRecDepth 100000 in
theorem last_calls {most : Int} {D : DataW Unit} {A : Option Addr} {l : List Int} {c g b n : Nat} {w : World}
    (hg : w.heap[g]? = some (.cells #[.int .i64 most, .map (some b)] 95 (0, 0))) (hown : w.ownsMap Try.prog 9 (plainElem Try.prog 3) b n D) (hr : Kd.C (Kd.int .u8) w A l.length l) :
    Calls Try.prog 17 #[.pointer (some ⟨g, 0, none⟩), .slice A l.length c] w fun e w' => ∃ v, e = .returned (.tuple #[.int .i64 v, .bool (Maps.has D (kl l))]) ∧ D.atKey (kl l) (.lit (.int .i64 0)) = .lit (.int .i64 v) ∧ ∃ nd, w' = w.drewN nd := by
  have hcv := Kd.C_string (P := Try.prog) (A := A) (c := c) Try.underlying24 Try.underlying5 Try.underlying9 (Kd.C_drew hr)
  have hkey := key_of (l := l) hr.2.1
  have c1 : w.cell? ⟨g, 1, none⟩ = some (.map (some b)) := (blk_cell hg 1).trans rfl
  obtain ⟨v, ps, hlook, hv⟩ := hown.drew.look_ok law9 Try.underlying93 (zero3 _) (plainElem_int Try.underlying3 (by decide)) hkey
  obtain ⟨x, rfl, hx, hwx⟩ := plainElem_int_inv Try.underlying3 hv
  go_enter Try.func17, Try.ntmps17
  go_wp2
  go_region
  go_wp2
  go_ret2
  exact ⟨x, rfl, congrArg Prod.fst hx, 1, rfl⟩

/-- What Offer leaves: nothing was put in, for there is no room; or the key has the greater one of both. -/
def Offered (most off : Int) (D : DataW Unit) (l : List Int) (b n : Nat) (w : World) (e : Ending) (w' : World) : Prop :=
  (Maps.has D (kl l) = false ∧ (Maps.size D : Int) ≥ most ∧ e = .returned (.bool false) ∧ ∃ nd, w' = w.drewN nd) ∨
  (∃ v, (Maps.has D (kl l) = true ∧ (∃ x, D.atKey (kl l) (.lit (.int .i64 0)) = .lit (.int .i64 x) ∧ v = max off x) ∨ Maps.has D (kl l) = false ∧ ¬ (Maps.size D : Int) ≥ most ∧ v = off) ∧ e = .returned (.bool true) ∧
    w'.ownsMap Try.prog 9 (plainElem Try.prog 3) b (n + 1) (D.put (kl l) (.lit (.int .i64 v))) ∧ w.grownBy w' (some b))

set_option maxHeartbeats 4000000 in
set_option maxRecDepth 100000 in
theorem offer_calls {most off : Int} {D : DataW Unit} {A : Option Addr} {l : List Int} {c g b n : Nat} {w : World} (hgb : g ≠ b) (hn : n < 1000000000) (hwo : (Lit.int .i64 off).wf = true)
    (hg : w.heap[g]? = some (.cells #[.int .i64 most, .map (some b)] 95 (0, 0))) (hown : w.ownsMap Try.prog 9 (plainElem Try.prog 3) b n D) (hr : Kd.C (Kd.int .u8) w A l.length l) :
    Calls Try.prog 16 #[.pointer (some ⟨g, 0, none⟩), .slice A l.length c, .int .i64 off] w (Offered most off D l b n w) := by
  have keep : ∀ {u : World}, World.grownBy w.drew.drew u (some b) → w.grownBy u (some b) := fun h => ⟨h.os, h.tape, h.output, h.size, h.block⟩
  have keep3 : ∀ {u : World}, World.grownBy w.drew.drew.drew u (some b) → w.grownBy u (some b) := fun h => ⟨h.os, h.tape, h.output, h.size, h.block⟩
  have hcv := Kd.C_string (P := Try.prog) (A := A) (c := c) Try.underlying24 Try.underlying5 Try.underlying9 (Kd.C_drew hr)
  have hkey := key_of (l := l) hr.2.1
  have c0 : w.cell? ⟨g, 0, none⟩ = some (.int .i64 most) := (blk_cell hg 0).trans rfl
  have c1 : w.cell? ⟨g, 1, none⟩ = some (.map (some b)) := (blk_cell hg 1).trans rfl
  obtain ⟨v, ps, hlook, hv⟩ := hown.drew.look_ok law9 Try.underlying93 (zero3 _) (plainElem_int Try.underlying3 (by decide)) hkey
  obtain ⟨x, rfl, hx, hwx⟩ := plainElem_int_inv Try.underlying3 hv
  go_enter Try.func16, Try.ntmps16
  go_wp2
  go_region
  go_wp2
  · obtain ⟨w1, hup, ho1, hg1⟩ := hown.drew.drew.update law9 Try.underlying93 (by unfold maxLen; omega) hkey (plainElem_int Try.underlying3 hwx)
    have hcv2 := Kd.C_string (P := Try.prog) (A := A) (c := c) Try.underlying24 Try.underlying5 Try.underlying9 (Kd.C_drew (Kd.C_drew hr))
    go_region
    go_wp2
    go_ret
    exact .inr ⟨x, .inl ⟨by assumption, x, congrArg Prod.fst hx, by omega⟩, rfl, ho1, keep hg1⟩
  · obtain ⟨w1, hup, ho1, hg1⟩ := hown.drew.drew.update law9 Try.underlying93 (by unfold maxLen; omega) hkey (plainElem_int Try.underlying3 hwo)
    have hcv2 := Kd.C_string (P := Try.prog) (A := A) (c := c) Try.underlying24 Try.underlying5 Try.underlying9 (Kd.C_drew (Kd.C_drew hr))
    go_region
    go_wp2
    go_ret
    exact .inr ⟨off, .inl ⟨by assumption, x, congrArg Prod.fst hx, by omega⟩, rfl, ho1, keep hg1⟩
  · have hlen := hown.drew.drew.len Try.underlying93 3
    go_region
    go_wp2
    · go_ret
      exact .inl ⟨by assumption, by omega, rfl, 2, rfl⟩
    · obtain ⟨w1, hup, ho1, hg1⟩ := hown.drew.drew.drew.update law9 Try.underlying93 (by unfold maxLen; omega) hkey (plainElem_int Try.underlying3 hwo)
      have hcv2 := Kd.C_string (P := Try.prog) (A := A) (c := c) Try.underlying24 Try.underlying5 Try.underlying9 (Kd.C_drew (Kd.C_drew (Kd.C_drew hr)))
      go_region
      go_wp2
      go_ret
      exact .inr ⟨off, .inr ⟨by assumption, by omega, rfl⟩, rfl, ho1, keep3 hg1⟩

theorem len_calls {most : Int} {D : DataW Unit} {g b n : Nat} {w : World}
    (hg : w.heap[g]? = some (.cells #[.int .i64 most, .map (some b)] 95 (0, 0))) (hown : w.ownsMap Try.prog 9 (plainElem Try.prog 3) b n D) :
    Calls Try.prog 20 #[.pointer (some ⟨g, 0, none⟩)] w fun e w' => e = .returned (.int .i64 (Maps.size D)) ∧ w' = w := by
  have c1 : w.cell? ⟨g, 1, none⟩ = some (.map (some b)) := (blk_cell hg 1).trans rfl
  have hlen := hown.len Try.underlying93 3
  go_enter Try.func20, Try.ntmps20
  go_wp2
  go_ret
  exact ⟨rfl, rfl⟩

theorem new_none {m : Int} {w : World} (h : m < 1 ∨ m > 1000000) :
    Calls Try.prog 15 #[.int .i64 m] w fun e w' => e = .returned (.tuple #[.pointer none, .int .i64 1]) ∧ w' = w := by
  by_cases h1 : m < 1
  · have c := decide_eq_true h1
    go_enter Try.func15, Try.ntmps15
    go_wp2
    all_goals first | (go_ret2; exact ⟨rfl, rfl⟩) | omega
  · have c := decide_eq_false h1
    have c2 := decide_eq_true (show m > 1000000 by omega)
    go_enter Try.func15, Try.ntmps15
    go_wp2
    all_goals first | (go_ret2; exact ⟨rfl, rfl⟩) | omega

theorem new_some {m : Int} {w : World} (h0 : 1 ≤ m) (h1 : m ≤ 1000000) :
    Calls Try.prog 15 #[.int .i64 m] w fun e w' => e = .returned (.tuple #[.pointer (some ⟨w.heap.size + 1, 0, none⟩), .int .i64 0]) ∧
      w' = (w.alloc (.map #[] 0)).alloc (.cells #[.int .i64 m, .map (some w.heap.size)] 95) := by
  have hmm := @run_makeMap Try.prog
  have c := decide_eq_false (show ¬ m < 1 by omega)
  have c2 := decide_eq_false (show ¬ m > 1000000 by omega)
  go_enter Try.func15, Try.ntmps15
  go_wp2
  all_goals first | (go_ret2; exact ⟨rfl, rfl⟩) | omega

end Go.Proofs.Ytpibjdkenifggaa.KM
