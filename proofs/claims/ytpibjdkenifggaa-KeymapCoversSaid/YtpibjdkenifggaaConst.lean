import Derived.Test.YtpibjdkenifggaaWMore
import Derived.Lib.SlBytesConst
import Derived.Laws.IdiomStrings
/-! The bytes of a constant text: a literal and its mark, two operations, told as a row that is read only. -/
namespace Go.Proofs.Ytpibjdkenifggaa.PrintConst
open Go.RowKit Go.Proofs.YtpibjdkenifggaaW.PrintWords Go.Proofs.YtpibjdkenifggaaW.PrintLast Go.Proofs.YtpibjdkenifggaaW.PrintMore
namespace Kd
theorem C_frozen (W : World) (e g : Nat) (xs : List Int) (fr : Nat × Nat) (hg : W.heap[g]? = some (.cells (xs.map (Value.int .u8)).toArray e fr)) (hm : xs.length ≤ 9223372036854775807) :
    Kd.C (Kd.int .u8) W (some ⟨g, 0, none⟩) xs.length xs := by
  refine ⟨rfl, hm, fun _ => ⟨_, rfl, fun j p hj => ⟨[.int .u8 p], rfl, rfl, fun i u hi => ?_⟩⟩⟩
  cases i with
  | zero =>
    have hu : u = .int .u8 p := by simpa using hi.symm
    subst hu
    have e1 : Addr.add ⟨g, 0, none⟩ (j * (Kd.int .u8).sz + 0) = ⟨g, j, none⟩ := by
      show Addr.add ⟨g, 0, none⟩ (j * 1 + 0) = _
      unfold Addr.add
      by_cases h : j = 0
      · subst h; rfl
      · rw [if_neg (by omega)]; simp
    rw [e1]
    unfold World.cell?
    rw [hg]
    simp [hj]
  | succ i => simp at hi
variable {P : Program} {ops : Array Oper} {rest : List Oper} {o o2 : Oper} {a : Act} {Q : Exit → Act → World → Prop}
theorem event2 {W W1 w1 : World} {v v2 : Value} (hgd : o.guard = none) (hgd2 : o2.guard = none) (hrun : (execOp a.eval o).run P W = .ok (.value v) W1)
    (hrun2 : (execOp (a.put o.dst v).eval o2).run P W1 = .ok (.value v2) w1) (h : wpList P ops Q rest ((a.put o.dst v).put o2.dst v2) w1) : wpList P ops Q (o :: o2 :: rest) a W := by
  refine wpList_plain hgd fun K hK => ?_
  unfold Oper.wp
  rw [hrun]
  refine hK _ _ (wpList_plain hgd2 fun K2 hK2 => ?_)
  unfold Oper.wp
  rw [hrun2]
  exact hK2 _ _ h
theorem V_const {w0 W : World} (base e : Nat) (hgd : o.guard = none) (hgd2 : o2.guard = none) {N N2 : Tmp} (_hd : o.dst = some N) (_hd2 : o2.dst = some N2) {xs : List Int} {inner : List Value} (hin : xs.map (Value.int .u8) = inner)
    (hrun : (execOp a.eval o).run P W = .ok (.value (.slice (some ⟨W.heap.size, 0, none⟩) xs.length xs.length)) (W.alloc (.cells inner.toArray e)))
    (hrun2 : (execOp (a.put o.dst (.slice (some ⟨W.heap.size, 0, none⟩) xs.length xs.length)).eval o2).run P (W.alloc (.cells inner.toArray e)) = .ok (.value (.slice (some ⟨W.heap.size, 0, none⟩) xs.length xs.length)) (W.alloc (.cells inner.toArray e (inner.length, inner.length + 1))))
    (HB : Below base w0 W) (hbase : base ≤ W.heap.size) (hm : xs.length ≤ 9223372036854775807)
    (h : ∀ v1 w1, Kd.V (Kd.int .u8) e w1 base (fun k_ => W.heap.size ≤ k_) v1 xs → Below base w0 w1 → W.grownBy w1 none → (∃ b, v1.ownBlock = some b ∧ W.heap.size ≤ b) → wpList P ops Q rest ((a.put o.dst v1).put o2.dst v1) w1) : wpList P ops Q (o :: o2 :: rest) a W := by
  refine event2 hgd hgd2 hrun hrun2 (h _ _ ?_ (HB.alloc hbase _) (World.grownBy_alloc W _ none) ⟨W.heap.size, by simp [Value.ownBlock], Nat.le_refl _⟩)
  subst hin
  refine Kd.V_mk (Nat.le_refl _) ?_
  intro W' hW
  have hn : ∀ o, (W.alloc o).heap[W.heap.size]? = some o := fun o => by
    show (W.heap.push o)[W.heap.size]? = _
    simp
  have hlt : ∀ o, W.heap.size < (W.alloc o).heap.size := fun o => by
    show W.heap.size < (W.heap.push o).size
    simp
  exact C_frozen W' e W.heap.size xs _ ((hW W.heap.size (Nat.le_refl _) (hlt _)).trans (hn _)) hm
theorem FK_slice_len {α : Type} {d : Kd α} {e n c : Nat} {W : World} {ok : Nat → Prop} {A : Option Addr} {l : List α} (hl : n ≤ c) (hf : Kd.F d W ok A n l) : Kd.FK (Kd.slice e d) W ok l [.slice A n c] := by
  obtain rfl := Kd.F_len hf
  exact Kd.FK_slice_mk hl hf
end Kd
end Go.Proofs.Ytpibjdkenifggaa.PrintConst
