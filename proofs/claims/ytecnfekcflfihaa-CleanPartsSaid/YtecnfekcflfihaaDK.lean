/- Segments of a log as arguments of a law. -/
import Derived.Test.YtecnfekcflfihaaDM
import Derived.Test.YtecnfekcflfihaaH14
import Derived.Test.YtecnfekcflfihaaCK
namespace Go.Proofs.Ytecnfekcflfihaa.CL
open Go.Proofs.Ytecnfekcflfihaa.H Go.RowKit Go.Proofs.YtecnfekcflfihaaW.PrintWords Go.Proofs.Ytecnfekcflfihaa.CK
set_option linter.unusedVariables false
theorem br_congr {α : Type} {d : Kd α} {e e' : α → List HV} (h : Br d e) (he : ∀ x, e x = e' x) : Br d e' := by
  have : e = e' := funext he
  rw [← this]; exact h
theorem flat_bl (l : List Int) : l.flatMap (fun n => ([.lit (.int .u8 n)] : List HV)) = bl l := by
  induction l with
  | nil => rfl
  | cons x r ih => simp only [List.flatMap_cons, ih]; rfl
def toRec (x : S34) : Rec := ⟨x.f0, x.f1, x.f2, some x.f3, x.f4, some x.f5⟩
def toBat (x : S46) : Bat := ⟨x.f0, x.f1, x.f2, x.f3, x.f4, some (x.f5.map toRec)⟩
def toSeg (x : List S46) : Seg := some (x.map toBat)
theorem br34 : Br k34 (fun x => recC (toRec x)) := by
  refine br_congr (Br.iso (Br.pair (Br.int .i64) (Br.pair (Br.int .i64) (Br.pair Br.bool (Br.pair (Br.slice 5 (Br.int .u8)) (Br.pair Br.bool (Br.slice 5 (Br.int .u8))))))) (fun x : S34 => (x.f0, x.f1, x.f2, x.f3, x.f4, x.f5))) ?_
  intro x
  simp only [flat_bl]
  rfl
theorem flat_map {α β γ : Type} (l : List α) (f : α → β) (g : β → List γ) : (l.map f).flatMap g = l.flatMap fun x => g (f x) := List.flatMap_map f g l
theorem br46 : Br k46 (fun x => batC (toBat x)) := by
  refine br_congr (Br.iso (Br.pair (Br.int .i64) (Br.pair (Br.int .i64) (Br.pair (Br.int .i64) (Br.pair (Br.int .i64) (Br.pair (Br.int .i64) (Br.slice 34 br34)))))) (fun x : S46 => (x.f0, x.f1, x.f2, x.f3, x.f4, x.f5))) ?_
  intro x
  have e1 : recsC (x.f5.map toRec) = x.f5.flatMap fun x => recC (toRec x) := flat_map _ _ _
  have e2 : (x.f5.map toRec).length = x.f5.length := List.length_map ..
  have e : recsV (some (x.f5.map toRec)) = .list 6 x.f5.length (x.f5.flatMap fun x => recC (toRec x)) false := by simp only [recsV, e1, e2]
  show _ = [HV.lit (.int .i64 x.f0), .lit (.int .i64 x.f1), .lit (.int .i64 x.f2), .lit (.int .i64 x.f3), .lit (.int .i64 x.f4), recsV (some (x.f5.map toRec))]
  rw [e]
  rfl
theorem brSeg : Br (Kd.slice 46 k46) (fun x => segC (toSeg x)) := by
  refine br_congr (Br.slice 46 br46) ?_
  intro x
  have e1 : batsC (x.map toBat) = x.flatMap fun x => batC (toBat x) := flat_map _ _ _
  have e2 : (x.map toBat).length = x.length := List.length_map ..
  have e : batsV (some (x.map toBat)) = .list 6 x.length (x.flatMap fun x => batC (toBat x)) false := by simp only [batsV, e1, e2]
  show _ = [batsV (some (x.map toBat))]
  rw [e]
  rfl
theorem repSegs {w : World} {A : Option Addr} {c : Nat} {l : List (List S46)} (hr : Kd.C (Kd.slice 46 k46) w A l.length l) (hc : l.length ≤ c) : Rep (m0 w) (rowL segC 1 (l.map toSeg)) (.slice A l.length c) := by
  have := brSeg.row hr hc
  have e1 : rows segC (l.map toSeg) = l.flatMap fun x => segC (toSeg x) := flat_map _ _ _
  have e2 : (l.map toSeg).length = l.length := List.length_map ..
  unfold rowL
  rw [e1, e2]
  exact this
theorem repBats {w : World} {A : Option Addr} {c : Nat} {l : List S46} (hr : Kd.C k46 w A l.length l) (hc : l.length ≤ c) : Rep (m0 w) (rowL batC 6 (l.map toBat)) (.slice A l.length c) := by
  have := br46.row hr hc
  have e1 : rows batC (l.map toBat) = l.flatMap fun x => batC (toBat x) := flat_map _ _ _
  have e2 : (l.map toBat).length = l.length := List.length_map ..
  unfold rowL
  rw [e1, e2]
  exact this
theorem repBytes {w : World} {A : Option Addr} {c : Nat} {l : List Int} (hr : Kd.C (Kd.int .u8) w A l.length l) (hc : l.length ≤ c) : Rep (m0 w) (byV (some l)) (.slice A l.length c) := by
  have := (Br.int .u8).row hr hc
  rw [flat_bl] at this
  exact this
theorem repCfg (m : M) (c : Cfg) : Rep m (.agg (cfgC c)) (.agg #[.int .i64 c.n0, .int .i64 c.n1, .int .i64 c.n2, .int .i64 c.n3, .int .i64 c.n4, .bool c.b5, .int .i64 c.grace, .int .i64 c.mm, .bool c.b8]) := by
  refine .agg _ _ ?_ rfl ?_
  · intro x hx
    simp only [cfgC, List.mem_cons, List.not_mem_nil, or_false] at hx
    rcases hx with rfl | rfl | rfl | rfl | rfl | rfl | rfl | rfl | rfl <;> rfl
  · intro j x hj
    rcases j with _ | _ | _ | _ | _ | _ | _ | _ | _ | j <;> simp [cfgC] at hj <;> subst hj <;> exact .lit _
theorem inBat_of (x : S46) (h : x.f5.length ≤ maxLen) : InBat (toBat x) := ⟨x.f5.map toRec, rfl, by rw [List.length_map]; exact h, fun y hy => by obtain ⟨z, -, rfl⟩ := List.mem_map.1 hy; exact ⟨_, _, rfl, rfl⟩⟩
theorem inSegs_of (l0 : List (List S46)) (q0 : ∀ x ∈ l0, x.length ≤ maxLen ∧ ∀ y ∈ x, y.f5.length ≤ maxLen) : ∀ x ∈ l0.map toSeg, InSeg x := by
  intro x hx
  obtain ⟨y, hy, rfl⟩ := List.mem_map.1 hx
  refine ⟨y.map toBat, rfl, by rw [List.length_map]; exact (q0 y hy).1, fun b hb => ?_⟩
  obtain ⟨z, hz, rfl⟩ := List.mem_map.1 hb
  exact inBat_of z ((q0 y hy).2 z hz)
end Go.Proofs.Ytecnfekcflfihaa.CL
