import Derived.Test.YtpibjdkenifggaaKMS
import Derived.Test.YtpibjdkenifggaaConst
import Derived.Lib.SmallJoins
import Derived.WalkKit
import Derived.Outline
namespace Go.Proofs.Ytpibjdkenifggaa.KM
open Go.RowKit Go.Maps Go.MapKept Go.ChangeMaps Go.WideElems Go.WideMaps Go.WideShapes Go.Proofs.YtpibjdkenifggaaW.PrintWords Go.Proofs.YtpibjdkenifggaaW.PrintLast Go.Proofs.YtpibjdkenifggaaW.PrintMore
theorem const_reads (W : World) (xs : List Int) (fr : Nat × Nat) (C : Array Value) (hC : C = (xs.map (Value.int .u8)).toArray) (g : Nat) (hg : g = W.heap.size) (hm : xs.length ≤ 9223372036854775807) : Kd.C (Kd.int .u8) (W.alloc (.cells C 5 fr)) (some ⟨g, 0, none⟩) xs.length xs := by
  subst hC hg
  exact PrintConst.Kd.C_frozen _ 5 _ xs fr (heap_alloc_new _ _) hm
theorem offer_to {w0 w : World} {most off : Int} {D D' : DataW Unit} {b : Bool} {A : Option Addr} {l : List Int} {c g : Nat} (ho : offer most D (kl l) off = (b, D')) (h : IsKM w0 w g most D) (hs : Maps.size D < 1000000000) (hwo : (Lit.int .i64 off).wf = true)
    (hB : Below w0.heap.size w0 w) (hr : Kd.C (Kd.int .u8) w A l.length l) :
    Calls Try.prog 16 #[.pointer (some ⟨g, 0, none⟩), .slice A l.length c, .int .i64 off] w fun e w' =>
      e = .returned (.bool b) ∧ IsKM w0 w' g most D' ∧ Below w0.heap.size w0 w' ∧ Beside w w' := by
  have h1 := offer_km (c := c) h hs hwo hB hr
  rw [ho] at h1
  exact h1
theorem last_to {w0 w : World} {most v : Int} {b : Bool} {D : DataW Unit} {A : Option Addr} {l : List Int} {c g : Nat} (hl : last D (kl l) = (v, b)) (h : IsKM w0 w g most D) (hr : Kd.C (Kd.int .u8) w A l.length l) :
    Calls Try.prog 17 #[.pointer (some ⟨g, 0, none⟩), .slice A l.length c] w fun e w' =>
      e = .returned (.tuple #[.int .i64 v, .bool b]) ∧ ∃ nd, w' = w.drewN nd := by
  have h1 := last_km (c := c) h hr
  rw [hl] at h1
  exact h1
def D1 : DataW Unit := (DataW.map []).put (kl [97]) (.lit (.int .i64 5))
theorem o1 : offer 1 (.map []) (kl [97]) 5 = (true, D1) := by kernel_rfl
theorem o2 : offer 1 D1 (kl [98]) 6 = (false, D1) := by kernel_rfl
theorem o3 : offer 1 D1 (kl [97]) 3 = (true, D1) := by kernel_rfl
theorem o4 : last D1 (kl [97]) = (5, true) := by kernel_rfl
theorem o5 : Maps.size D1 = 1 := by kernel_rfl
set_option maxHeartbeats 4000000 in
set_option maxRecDepth 100000 in
theorem awake_calls {w : World} : Calls Try.prog 14 #[] w fun e w' => e = .returned (.bool true) ∧ Below w.heap.size w w' := by
  have kc := fun (w : World) (C : Array Value) (n c g : Nat) (hg : g = w.heap.size) => Joins.run_convert_bytes_const_at (P := Try.prog) w 24 5 C n c g hg Try.underlying24 Try.underlying5
  go_enter Try.func14, Try.ntmps14
  go_wp2_with fail
  refine (new_km (w0 := w) (by decide) (by decide) (Below.refl _ _)).mono ?_; rintro e w1 ⟨g, rfl, hI, hB, hB1, hge⟩
  go_wp2_with fail
  refine (new_none (by decide)).mono ?_; rintro e w' ⟨rfl, rfl⟩
  go_wp2_with fail
  refine (offer_to (w0 := w) (l := [97]) o1 (hI.alloc _) (by decide) (by decide) (below_alloc hB _) (const_reads _ [97] _ _ rfl _ rfl (by decide))).mono ?_; rintro e w2 ⟨rfl, hI2, hB2, _⟩
  go_wp2_with fail
  refine (offer_to (w0 := w) (l := [98]) o2 (hI2.alloc _) (by rw [o5]; decide) (by decide) (below_alloc hB2 _) (const_reads _ [98] _ _ rfl _ rfl (by decide))).mono ?_; rintro e w3 ⟨rfl, hI3, hB3, _⟩
  go_wp2_with fail
  refine (offer_to (w0 := w) (l := [97]) o3 (hI3.alloc _) (by rw [o5]; decide) (by decide) (below_alloc hB3 _) (const_reads _ [97] _ _ rfl _ rfl (by decide))).mono ?_; rintro e w4 ⟨rfl, hI4, hB4, _⟩
  go_wp2_with fail
  refine (last_to (w0 := w) (l := [97]) o4 (hI4.alloc _) (const_reads _ [97] _ _ rfl _ rfl (by decide))).mono ?_; rintro e w5 ⟨rfl, nd, rfl⟩
  go_wp2_with fail
  refine (len_km (w0 := w) ((hI4.alloc _).drewN _)).mono ?_; rintro e w6 ⟨rfl, rfl⟩
  rw [o5]
  go_wp2_with fail
  go_ret
  exact ⟨rfl, pw_below_drewN (below_alloc hB4 _) _⟩
end Go.Proofs.Ytpibjdkenifggaa.KM
