/- What the proof of the law GroupPlays needs, cut out of the session's own texts by a program (slim.py): part 4. -/
import Derived.Test.YtkcgokkgefgcjaaGreatDoorQGroupPlaysc
section
namespace Go.Proofs.YtkcgokkgefgcjaaGreatDoor.H
open Go.RowKit Go.MapKept
set_option linter.unusedVariables false
set_option linter.unusedSimpArgs false
/-- A state with a row at q. -/
def Lay {α : Type} (enc : α → List HV) (rest : List HV) (s : HS) (q : Nat) (M : List α) : HS := s.set q (.cells (rows enc M ++ rest))
section
variable {P : Program} {α : Type} {enc : α → List HV} {sz : Nat} {z : α} {rest : List HV} {s : HS} {q : Nat} {lt : α → α → Bool}
theorem lay_at (M : List α) : Lay enc rest s q M q = some (.cells (rows enc M ++ rest)) := set_at _ _ _
theorem lay_self {t : HS} {M : List α} (h : t q = some (.cells (rows enc M ++ rest))) : Lay enc rest t q M = t := by
  funext k
  simp only [Lay, HS.set]
  split
  · rename_i e; rw [e, h]
  · rfl
theorem lay_set (M M' : List α) : (Lay enc rest s q M).set q (.cells (rows enc M' ++ rest)) = Lay enc rest s q M' := by
  funext k
  simp only [Lay, HS.set]
  split <;> rfl
theorem lay_idx {n : Nat} {f : Bool} {i : Nat} (hi : i < n) : vIdx sz (.view q 0 sz n f) (.lit (.int .i64 i)) = some (.ptr q (i * sz)) := by rw [idx_view .i64 hi, Nat.zero_add]
theorem lay_load (h : ∀ x, (enc x).length = sz) (M : List α) {i : Nat} (hi : i < M.length) : vLoad (Lay enc rest s q M) (.ptr q (i * sz)) sz true = some (.agg (enc (M.getD i z))) := load_rows h z (lay_at M) hi
theorem lay_store (h : ∀ x, (enc x).length = sz) (ho : ∀ x, ∀ y ∈ enc x, hone y = true) (M : List α) {i : Nat} (hi : i < M.length) (v : α) {K : HS → Prop} (hK : K (Lay enc rest s q (M.set i v))) : hStore (Lay enc rest s q M) (.ptr q (i * sz)) (.agg (enc v)) sz K := by
  refine store_rows h (lay_at M) hi v (ho v) ?_
  rw [lay_set]
  exact hK
/-- A comparison answers as the order does, and changes nothing. -/
def CmpOk (P : Program) (cmp : HV) (enc : α → List HV) (lt : α → α → Bool) (rest : List HV) (s : HS) (q : Nat) : Prop :=
  ∀ (M : List α) (x y : α) (K : HV → HS → Prop), (∀ n : Int, (n < 0 ↔ lt x y = true) → K (.lit (.int .i64 n)) (Lay enc rest s q M)) → hcall P cmp [.agg (enc x), .agg (enc y)] (Lay enc rest s q M) K
theorem add_i {a b : Nat} (h : a + b < 9223372036854775808) : vBin .add (.lit (.int .i64 (a : Int))) (.lit (.int .i64 (b : Int))) = some (.lit (.int .i64 ((a + b : Nat) : Int))) := by
  simp only [vBin, if_true]
  rw [w64 (by omega) (by omega), Int.natCast_add]
theorem sub_i {a b : Nat} (h : b ≤ a) (h' : a < 9223372036854775808) : vBin .sub (.lit (.int .i64 (a : Int))) (.lit (.int .i64 (b : Int))) = some (.lit (.int .i64 ((a - b : Nat) : Int))) := by
  simp only [vBin, if_true]
  rw [w64 (by omega) (by omega), Int.natCast_sub h]
theorem mul_i {a b : Nat} (h : a * b < 9223372036854775808) : vBin .mul (.lit (.int .i64 (a : Int))) (.lit (.int .i64 (b : Int))) = some (.lit (.int .i64 ((a * b : Nat) : Int))) := by
  simp only [vBin, if_true]
  rw [← Int.natCast_mul, w64 (by omega) (by omega)]
theorem lss_i (a b : Nat) : vBin .lss (.lit (.int .i64 (a : Int))) (.lit (.int .i64 (b : Int))) = some (.lit (.bool (decide (a < b)))) := by
  simp only [vBin, if_true]
  congr 3
  simp
theorem leq_i (a b : Nat) : vBin .leq (.lit (.int .i64 (a : Int))) (.lit (.int .i64 (b : Int))) = some (.lit (.bool (decide (a ≤ b)))) := by
  simp only [vBin, if_true]
  congr 3
  simp
theorem gtr_i (a b : Nat) : vBin .gtr (.lit (.int .i64 (a : Int))) (.lit (.int .i64 (b : Int))) = some (.lit (.bool (decide (b < a)))) := by
  simp only [vBin, if_true]
  congr 3
  simp
theorem eql_i (d : Option TypeDesc) (a b : Nat) : vCmp d .eql (.lit (.int .i64 (a : Int))) (.lit (.int .i64 (b : Int))) = some (.lit (.bool (decide (a = b)))) := by
  simp only [vCmp, vBin, if_true]
  congr 3
  rw [Bool.eq_iff_iff]
  simp
  exact Int.ofNat_inj
theorem neq_i (d : Option TypeDesc) (a b : Nat) : vCmp d .neq (.lit (.int .i64 (a : Int))) (.lit (.int .i64 (b : Int))) = some (.lit (.bool (decide (a ≠ b)))) := by
  simp only [vCmp, vBin, if_true]
  congr 3
  rw [Bool.eq_iff_iff]
  simp
  exact not_congr Int.ofNat_inj
theorem lt0 {n : Int} : vBin .lss (.lit (.int .i64 n)) (.lit (.int .i64 0)) = some (.lit (.bool (decide (n < 0)))) := by simp only [vBin, if_true]
/-- insertionSortCmpFunc's text. -/
def insT (P : Program) (sz : Nat) (a0 a1 a2 a3 : HV) (s : HS) (Q : HV → HS → Prop) : Prop :=
  bindO (vBin .add a1 (.lit (.int .i64 1))) fun x1 => HLoop (fun y3 s4 K2 => bindO (vBin .lss (y3.headD .junk) a2) fun x5 => hcond x5 (HLoop (fun y7 s8 K6 => Join (fun K9 => bindO (vBin .gtr (y7.headD .junk) a1) fun x12 => hcond x12 (bindO (vIdx sz a0 (y7.headD .junk)) fun x13 => bindO (vLoad s8 x13 sz true) fun x14 => bindO (vBin .sub (y7.headD .junk) (.lit (.int .i64 1))) fun x15 => bindO (vIdx sz a0 x15) fun x16 => bindO (vLoad s8 x16 sz true) fun x17 => hcall P a3 [x14, x17] s8 (fun r18 s19 => bindO (vBin .lss r18 (.lit (.int .i64 0))) fun x20 => K9 [x20] s19)) (K9 [(.lit (.bool false))] s8)) (fun y10 s11 => hcond (y10.headD .junk) (bindO (vBin .sub (y7.headD .junk) (.lit (.int .i64 1))) fun x21 => bindO (vBin .sub (y7.headD .junk) (.lit (.int .i64 1))) fun x22 => bindO (vIdx sz a0 x22) fun x23 => bindO (vLoad s11 x23 sz true) fun x24 => bindO (vIdx sz a0 (y7.headD .junk)) fun x25 => bindO (vLoad s11 x25 sz true) fun x26 => bindO (vIdx sz a0 (y7.headD .junk)) fun x27 => hStore s11 x27 x24 sz (fun s28 => bindO (vIdx sz a0 x21) fun x29 => hStore s28 x29 x26 sz (fun s30 => bindO (vBin .sub (y7.headD .junk) (.lit (.int .i64 1))) fun x31 => K6 [x31] s30))) (bindO (vBin .add (y3.headD .junk) (.lit (.int .i64 1))) fun x32 => K2 [x32] s11))) [(y3.headD .junk)] s4) (Q (.tup []) s4)) [x1] s
/-- Where two elements are put into each other's place. -/
theorem swap_walk (h : ∀ x, (enc x).length = sz) (ho : ∀ x, ∀ y ∈ enc x, hone y = true) {M : List α} {i j : Nat} (hi : i < M.length) (hj : j < M.length) {K : HS → Prop} (hK : K (Lay enc rest s q (swap z M i j))) :
    hStore (Lay enc rest s q M) (.ptr q (i * sz)) (.agg (enc (M.getD j z))) sz (fun s28 => hStore s28 (.ptr q (j * sz)) (.agg (enc (M.getD i z))) sz K) := by
  refine lay_store h ho M hi _ ?_
  exact lay_store h ho _ (by rw [List.length_set]; exact hj) _ hK
theorem ins_ok (hO : Ordr lt) (h : ∀ x, (enc x).length = sz) (ho : ∀ x, ∀ y ∈ enc x, hone y = true) {cmp : HV} (hc : CmpOk P cmp enc lt rest s q) {M : List α} {a b : Nat} {f : Bool} {Q : HV → HS → Prop} (hb : b ≤ M.length) (hl : M.length < 1099511627776) (hab : a ≤ b)
    (hQ : ∀ M', Kept z M M' a b → SO z lt M' a b → Q (.tup []) (Lay enc rest s q M')) :
    insT P sz (.view q 0 sz M.length f) (.lit (.int .i64 (a : Int))) (.lit (.int .i64 (b : Int))) cmp (Lay enc rest s q M) Q := by
  unfold insT
  rw [show (HV.lit (.int .i64 1)) = .lit (.int .i64 ((1 : Nat) : Int)) from rfl, add_i (by omega)]
  simp only [bindO]
  refine HLoop.ghost (σ := Nat × List α) (fun g => [.lit (.int .i64 (g.1 : Int))]) (fun g t => a + 1 ≤ g.1 ∧ (g.1 ≤ b ∨ g.1 = a + 1) ∧ Kept z M g.2 a b ∧ SO z lt g.2 a (min g.1 b) ∧ t = Lay enc rest s q g.2) (fun g => b - g.1) (a + 1, M) rfl ⟨Nat.le_refl _, .inr rfl, Kept.refl M a b, ?_, rfl⟩ ?_
  · intro i j g1 g2 g3
    omega
  rintro ⟨i, M1⟩ t K ⟨h1, h2, h3, h4, rfl⟩ hK
  simp only at h1 h2 h3 h4
  have hlen := h3.len
  simp only [List.headD_cons, lss_i]
  by_cases hib : i < b
  · simp only [hib, decide_true, hcond]
    rw [Nat.min_eq_left (by omega)] at h4
    refine HLoop.ghost (σ := Nat × List α) (fun g => [.lit (.int .i64 (g.1 : Int))]) (fun g t => a ≤ g.1 ∧ g.1 ≤ i ∧ Kept z M g.2 a b ∧ Ins z lt g.2 a i g.1 ∧ t = Lay enc rest s q g.2) (fun g => g.1) (i, M1) rfl ⟨by omega, Nat.le_refl _, h3, Ins.start h4, rfl⟩ ?_
    rintro ⟨j, M2⟩ t K2 ⟨k1, k2, k3, k4, rfl⟩ hK2
    simp only at k1 k2 k3 k4
    have hlen2 := k3.len
    simp only [List.headD_cons, gtr_i]
    refine Join.of (fun xs t => t = Lay enc rest s q M2 ∧ ∃ c : Bool, xs = [.lit (.bool c)] ∧ (c = true → a < j ∧ lt (M2.getD j z) (M2.getD (j - 1) z) = true) ∧ (c = false → j = a ∨ lt (M2.getD j z) (M2.getD (j - 1) z) = false)) ?_ ?_
    · rintro _ t ⟨rfl, c, rfl, c1, c2⟩
      cases c with
      | true =>
        obtain ⟨c3, c4⟩ := c1 rfl
        simp only [List.headD_cons, sub_i (show 1 ≤ j by omega) (by omega), lay_idx (show j - 1 < M.length by omega), lay_idx (show j < M.length by omega), lay_load (z := z) h M2 (show j - 1 < M2.length by omega), lay_load (z := z) h M2 (show j < M2.length by omega)]
        refine swap_walk (M := M2) (i := j) (j := j - 1) h ho (by omega) (by omega) ?_
        exact hK2 (j - 1, swap z M2 j (j - 1)) _ _ rfl ⟨by show a ≤ j - 1; omega, by show j - 1 ≤ i; omega, k3.trans (Kept.swap (by omega) (by omega) (by omega) (by omega) (by omega) (by omega)), Ins.step hO k4 (by omega) k2 c3 c4, rfl⟩ (by show j - 1 < j; omega)
      | false =>
        simp only [List.headD_cons, add_i (show i + 1 < 9223372036854775808 by omega)]
        have hso := Ins.stop hO k4 k1 k2 (c2 rfl)
        exact hK (i + 1, M2) _ _ rfl ⟨by show a + 1 ≤ i + 1; omega, .inl (by show i + 1 ≤ b; omega), k3, by rw [Nat.min_eq_left (by show i + 1 ≤ b; omega)]; exact hso, rfl⟩ (by show b - (i + 1) < b - i; omega)
    · intro K9 hK9
      by_cases hj : a < j
      · simp only [hj, decide_true, sub_i (show 1 ≤ j by omega) (show j < 9223372036854775808 by omega), lay_idx (show j - 1 < M.length by omega), lay_idx (show j < M.length by omega), lay_load (z := z) h M2 (show j - 1 < M2.length by omega), lay_load (z := z) h M2 (show j < M2.length by omega)]
        refine hc M2 _ _ _ fun n hn => ?_
        simp only [lt0]
        refine hK9 _ _ ⟨rfl, _, rfl, fun e => ⟨hj, hn.1 (by simpa using e)⟩, fun e => .inr ?_⟩
        cases e2 : lt (M2.getD j z) (M2.getD (j - 1) z) with
        | false => rfl
        | true => exact absurd (hn.2 e2) (by simpa using e)
      · simp only [hj, decide_false]
        exact hK9 _ _ ⟨rfl, _, rfl, fun e => by simp at e, fun _ => .inl (by omega)⟩
  · simp only [hib, decide_false, hcond]
    rw [Nat.min_eq_right (by omega)] at h4
    exact hQ M1 h3 h4
end
end Go.Proofs.YtkcgokkgefgcjaaGreatDoor.H
end
section
namespace Go.Proofs.YtkcgokkgefgcjaaGreatDoor.H
open Go.RowKit Go.MapKept
set_option linter.unusedVariables false
set_option linter.unusedSimpArgs false
def swrT (P : Program) (sz : Nat) (a0 a1 a2 a3 a4 : HV) (s : HS) (Q : HV → HS → Prop) : Prop :=
  HLoop (fun y2 s3 K1 => bindO (vBin .lss (y2.headD .junk) a3) fun x4 => hcond x4 (bindO (vBin .add a1 (y2.headD .junk)) fun x5 => bindO (vBin .add a2 (y2.headD .junk)) fun x6 => bindO (vBin .add a2 (y2.headD .junk)) fun x7 => bindO (vIdx sz a0 x7) fun x8 => bindO (vLoad s3 x8 sz true) fun x9 => bindO (vBin .add a1 (y2.headD .junk)) fun x10 => bindO (vIdx sz a0 x10) fun x11 => bindO (vLoad s3 x11 sz true) fun x12 => bindO (vIdx sz a0 x5) fun x13 => hStore s3 x13 x9 sz (fun s14 => bindO (vIdx sz a0 x6) fun x15 => hStore s14 x15 x12 sz (fun s16 => bindO (vBin .add (y2.headD .junk) (.lit (.int .i64 1))) fun x17 => K1 [x17] s16))) (Q (.tup []) s3)) [(.lit (.int .i64 0))] s
def rotT (P : Program) (sz : Nat) (u3 gw : Nat) (a0 a1 a2 a3 a4 : HV) (s : HS) (Q : HV → HS → Prop) : Prop :=
  bindO (vBin .sub a2 a1) fun x1 => bindO (vBin .sub a3 a2) fun x2 => HLoop (fun y4 s5 K3 => bindO (vCmp (P.underlying u3) .neq (y4.headD .junk) (y4.tail.headD .junk)) fun x6 => hcond x6 (bindO (vBin .gtr (y4.headD .junk) (y4.tail.headD .junk)) fun x7 => hcond x7 (bindO (vBin .sub a2 (y4.headD .junk)) fun x8 => HC P gw [a0, x8, a2, (y4.tail.headD .junk), a4] s5 (fun r9 s10 => bindO (vBin .sub (y4.headD .junk) (y4.tail.headD .junk)) fun x11 => K3 [x11, (y4.tail.headD .junk)] s10)) (bindO (vBin .sub a2 (y4.headD .junk)) fun x12 => bindO (vBin .add a2 (y4.tail.headD .junk)) fun x13 => bindO (vBin .sub x13 (y4.headD .junk)) fun x14 => HC P gw [a0, x12, x14, (y4.headD .junk), a4] s5 (fun r15 s16 => bindO (vBin .sub (y4.tail.headD .junk) (y4.headD .junk)) fun x17 => K3 [(y4.headD .junk), x17] s16))) (bindO (vBin .sub a2 (y4.headD .junk)) fun x18 => HC P gw [a0, x18, a2, (y4.headD .junk), a4] s5 (fun r19 s20 => Q (.tup []) s20))) [x1, x2] s
def symT (P : Program) (sz : Nat) (u3 gr gs : Nat) (a0 a1 a2 a3 a4 : HV) (s : HS) (Q : HV → HS → Prop) : Prop :=
  bindO (vBin .sub a2 a1) fun x1 => bindO (vCmp (P.underlying u3) .eql x1 (.lit (.int .i64 1))) fun x2 => hcond x2 (HLoop (fun y4 s5 K3 => bindO (vBin .lss (y4.headD .junk) (y4.tail.headD .junk)) fun x6 => hcond x6 (bindO (vBin .add (y4.headD .junk) (y4.tail.headD .junk)) fun x7 => bindO (vToInt .u64 x7) fun x8 => bindO (vBin .shr x8 (.lit (.int .u64 1))) fun x9 => bindO (vToInt .i64 x9) fun x10 => bindO (vIdx sz a0 x10) fun x11 => bindO (vLoad s5 x11 sz true) fun x12 => bindO (vIdx sz a0 a1) fun x13 => bindO (vLoad s5 x13 sz true) fun x14 => hcall P a4 [x12, x14] s5 (fun r15 s16 => bindO (vBin .lss r15 (.lit (.int .i64 0))) fun x17 => hcond x17 (bindO (vBin .add x10 (.lit (.int .i64 1))) fun x18 => K3 [x18, (y4.tail.headD .junk)] s16) (K3 [(y4.headD .junk), x10] s16))) (HLoop (fun y20 s21 K19 => bindO (vBin .sub (y4.headD .junk) (.lit (.int .i64 1))) fun x22 => bindO (vBin .lss (y20.headD .junk) x22) fun x23 => hcond x23 (bindO (vBin .add (y20.headD .junk) (.lit (.int .i64 1))) fun x24 => bindO (vBin .add (y20.headD .junk) (.lit (.int .i64 1))) fun x25 => bindO (vIdx sz a0 x25) fun x26 => bindO (vLoad s21 x26 sz true) fun x27 => bindO (vIdx sz a0 (y20.headD .junk)) fun x28 => bindO (vLoad s21 x28 sz true) fun x29 => bindO (vIdx sz a0 (y20.headD .junk)) fun x30 => hStore s21 x30 x27 sz (fun s31 => bindO (vIdx sz a0 x24) fun x32 => hStore s31 x32 x29 sz (fun s33 => bindO (vBin .add (y20.headD .junk) (.lit (.int .i64 1))) fun x34 => K19 [x34] s33))) (Q (.tup []) s21)) [a1] s5)) [a2, a3] s) (bindO (vBin .sub a3 a2) fun x35 => bindO (vCmp (P.underlying u3) .eql x35 (.lit (.int .i64 1))) fun x36 => hcond x36 (HLoop (fun y38 s39 K37 => bindO (vBin .lss (y38.headD .junk) (y38.tail.headD .junk)) fun x40 => hcond x40 (bindO (vBin .add (y38.headD .junk) (y38.tail.headD .junk)) fun x41 => bindO (vToInt .u64 x41) fun x42 => bindO (vBin .shr x42 (.lit (.int .u64 1))) fun x43 => bindO (vToInt .i64 x43) fun x44 => bindO (vIdx sz a0 a2) fun x45 => bindO (vLoad s39 x45 sz true) fun x46 => bindO (vIdx sz a0 x44) fun x47 => bindO (vLoad s39 x47 sz true) fun x48 => hcall P a4 [x46, x48] s39 (fun r49 s50 => bindO (vBin .lss r49 (.lit (.int .i64 0))) fun x51 => bindO (vUn .not x51) fun x52 => hcond x52 (bindO (vBin .add x44 (.lit (.int .i64 1))) fun x53 => K37 [x53, (y38.tail.headD .junk)] s50) (K37 [(y38.headD .junk), x44] s50))) (HLoop (fun y55 s56 K54 => bindO (vBin .gtr (y55.headD .junk) (y38.headD .junk)) fun x57 => hcond x57 (bindO (vBin .sub (y55.headD .junk) (.lit (.int .i64 1))) fun x58 => bindO (vBin .sub (y55.headD .junk) (.lit (.int .i64 1))) fun x59 => bindO (vIdx sz a0 x59) fun x60 => bindO (vLoad s56 x60 sz true) fun x61 => bindO (vIdx sz a0 (y55.headD .junk)) fun x62 => bindO (vLoad s56 x62 sz true) fun x63 => bindO (vIdx sz a0 (y55.headD .junk)) fun x64 => hStore s56 x64 x61 sz (fun s65 => bindO (vIdx sz a0 x58) fun x66 => hStore s65 x66 x63 sz (fun s67 => bindO (vBin .sub (y55.headD .junk) (.lit (.int .i64 1))) fun x68 => K54 [x68] s67))) (Q (.tup []) s56)) [a2] s39)) [a1, a2] s) (bindO (vBin .add a1 a3) fun x69 => bindO (vToInt .u64 x69) fun x70 => bindO (vBin .shr x70 (.lit (.int .u64 1))) fun x71 => bindO (vToInt .i64 x71) fun x72 => bindO (vBin .add x72 a2) fun x73 => Join (fun K74 => bindO (vBin .gtr a2 x72) fun x77 => hcond x77 (bindO (vBin .sub x73 a3) fun x78 => K74 [x78, x72] s) (K74 [a1, a2] s)) (fun y75 s76 => bindO (vBin .sub x73 (.lit (.int .i64 1))) fun x79 => HLoop (fun y81 s82 K80 => bindO (vBin .lss (y81.headD .junk) (y81.tail.headD .junk)) fun x83 => hcond x83 (bindO (vBin .add (y81.headD .junk) (y81.tail.headD .junk)) fun x84 => bindO (vToInt .u64 x84) fun x85 => bindO (vBin .shr x85 (.lit (.int .u64 1))) fun x86 => bindO (vToInt .i64 x86) fun x87 => bindO (vBin .sub x79 x87) fun x88 => bindO (vIdx sz a0 x88) fun x89 => bindO (vLoad s82 x89 sz true) fun x90 => bindO (vIdx sz a0 x87) fun x91 => bindO (vLoad s82 x91 sz true) fun x92 => hcall P a4 [x90, x92] s82 (fun r93 s94 => bindO (vBin .lss r93 (.lit (.int .i64 0))) fun x95 => bindO (vUn .not x95) fun x96 => hcond x96 (bindO (vBin .add x87 (.lit (.int .i64 1))) fun x97 => K80 [x97, (y81.tail.headD .junk)] s94) (K80 [(y81.headD .junk), x87] s94))) (bindO (vBin .sub x73 (y81.headD .junk)) fun x98 => Join (fun K99 => Join (fun K102 => bindO (vBin .lss (y81.headD .junk) a2) fun x105 => hcond x105 (bindO (vBin .lss a2 x98) fun x106 => K102 [x106] s82) (K102 [(.lit (.bool false))] s82)) (fun y103 s104 => hcond (y103.headD .junk) (HC P gr [a0, (y81.headD .junk), a2, x98, a4] s104 (fun r107 s108 => K99 [] s108)) (K99 [] s104))) (fun y100 s101 => Join (fun K109 => Join (fun K112 => bindO (vBin .lss a1 (y81.headD .junk)) fun x115 => hcond x115 (bindO (vBin .lss (y81.headD .junk) x72) fun x116 => K112 [x116] s101) (K112 [(.lit (.bool false))] s101)) (fun y113 s114 => hcond (y113.headD .junk) (HC P gs [a0, a1, (y81.headD .junk), x72, a4] s114 (fun r117 s118 => K109 [] s118)) (K109 [] s114))) (fun y110 s111 => Join (fun K119 => bindO (vBin .lss x72 x98) fun x122 => hcond x122 (bindO (vBin .lss x98 a3) fun x123 => K119 [x123] s111) (K119 [(.lit (.bool false))] s111)) (fun y120 s121 => hcond (y120.headD .junk) (HC P gs [a0, x72, x98, a3, a4] s121 (fun r124 s125 => Q (.tup []) s125)) (Q (.tup []) s121)))))) [(y75.headD .junk), (y75.tail.headD .junk)] s76)))
def stbT (P : Program) (sz : Nat) (gi gs : Nat) (a0 a1 a2 : HV) (s : HS) (Q : HV → HS → Prop) : Prop :=
  HLoop (fun y2 s3 K1 => bindO (vBin .leq (y2.tail.headD .junk) a1) fun x4 => hcond x4 (HC P gi [a0, (y2.headD .junk), (y2.tail.headD .junk), a2] s3 (fun r5 s6 => bindO (vBin .add (y2.tail.headD .junk) (.lit (.int .i64 20))) fun x7 => K1 [(y2.tail.headD .junk), x7] s6)) (HC P gi [a0, (y2.headD .junk), a1, a2] s3 (fun r8 s9 => HLoop (fun y11 s12 K10 => bindO (vBin .lss (y11.headD .junk) a1) fun x13 => hcond x13 (bindO (vBin .mul (.lit (.int .i64 2)) (y11.headD .junk)) fun x14 => HLoop (fun y16 s17 K15 => bindO (vBin .leq (y16.tail.headD .junk) a1) fun x18 => hcond x18 (bindO (vBin .add (y16.headD .junk) (y11.headD .junk)) fun x19 => HC P gs [a0, (y16.headD .junk), x19, (y16.tail.headD .junk), a2] s17 (fun r20 s21 => bindO (vBin .mul (.lit (.int .i64 2)) (y11.headD .junk)) fun x22 => bindO (vBin .add (y16.tail.headD .junk) x22) fun x23 => K15 [(y16.tail.headD .junk), x23] s21)) (Join (fun K24 => bindO (vBin .add (y16.headD .junk) (y11.headD .junk)) fun x27 => bindO (vBin .lss x27 a1) fun x28 => hcond x28 (HC P gs [a0, (y16.headD .junk), x27, a1, a2] s17 (fun r29 s30 => K24 [] s30)) (K24 [] s17)) (fun y25 s26 => bindO (vBin .mul (y11.headD .junk) (.lit (.int .i64 2))) fun x31 => K10 [x31] s26))) [(.lit (.int .i64 0)), x14] s12) (Q (.tup []) s12)) [(.lit (.int .i64 20))] s9))) [(.lit (.int .i64 0)), (.lit (.int .i64 20))] s
section
variable {P : Program} {α : Type} {enc : α → List HV} {sz : Nat} {z : α} {rest : List HV} {s : HS} {q : Nat} {lt : α → α → Bool} {N : Nat} {f : Bool} {cmp : HV}
theorem wlit0 : HV.lit (.int .i64 0) = .lit (.int .i64 ((0 : Nat) : Int)) := rfl
theorem wlit1 : HV.lit (.int .i64 1) = .lit (.int .i64 ((1 : Nat) : Int)) := rfl
def SwrOk (P : Program) (gw : Nat) (enc : α → List HV) (sz : Nat) (z : α) (rest : List HV) (s : HS) (q N : Nat) (f : Bool) (cmp : HV) : Prop :=
  ∀ (M : List α) (p r n : Nat) (Q : HV → HS → Prop), M.length = N → p + n ≤ r → r + n ≤ N → (∀ M', Kept z M M' p (r + n) → (∀ x, M'.getD x z = swF (fun k => M.getD k z) p r n x) → Q (.tup []) (Lay enc rest s q M')) →
    HC P gw [.view q 0 sz N f, .lit (.int .i64 (p : Int)), .lit (.int .i64 (r : Int)), .lit (.int .i64 (n : Int)), cmp] (Lay enc rest s q M) Q
theorem swr_ok (h : ∀ x, (enc x).length = sz) (ho : ∀ x, ∀ y ∈ enc x, hone y = true) {M : List α} {p r n : Nat} {Q : HV → HS → Prop} (hN : M.length = N) (hl : N < 1099511627776) (h1 : p + n ≤ r) (h2 : r + n ≤ N)
    (hQ : ∀ M', Kept z M M' p (r + n) → (∀ x, M'.getD x z = swF (fun k => M.getD k z) p r n x) → Q (.tup []) (Lay enc rest s q M')) :
    swrT P sz (.view q 0 sz N f) (.lit (.int .i64 (p : Int))) (.lit (.int .i64 (r : Int))) (.lit (.int .i64 (n : Int))) cmp (Lay enc rest s q M) Q := by
  unfold swrT
  rw [wlit0]
  refine HLoop.ghost (σ := Nat × List α) (fun g => [.lit (.int .i64 (g.1 : Int))]) (fun g t => g.1 ≤ n ∧ Kept z M g.2 p (r + n) ∧ (∀ x, g.2.getD x z = swF (fun k => M.getD k z) p r g.1 x) ∧ t = Lay enc rest s q g.2) (fun g => n - g.1) (0, M) rfl ⟨Nat.zero_le _, Kept.refl _ _ _, fun x => by rw [swF_zero], rfl⟩ ?_
  rintro ⟨i, M1⟩ t K ⟨k1, k2, k3, rfl⟩ hK
  simp only at k1 k2 k3
  have hlen := k2.len
  simp only [List.headD_cons, lss_i, bindO]
  by_cases hi : i < n
  · simp only [hi, decide_true, hcond, add_i (show p + i < 9223372036854775808 by omega), add_i (show r + i < 9223372036854775808 by omega), lay_idx (show p + i < N by omega), lay_idx (show r + i < N by omega), lay_load (z := z) h M1 (show p + i < M1.length by omega), lay_load (z := z) h M1 (show r + i < M1.length by omega)]
    refine swap_walk (M := M1) (i := p + i) (j := r + i) h ho (by omega) (by omega) ?_
    rw [wlit1, add_i (show i + 1 < 9223372036854775808 by omega)]
    exact hK (i + 1, swap z M1 (p + i) (r + i)) _ _ rfl ⟨hi, k2.trans (Kept.swap (by omega) (by omega) (by omega) (by omega) (by omega) (by omega)), swF_step k3 (by omega) (by omega), rfl⟩ (by show n - (i + 1) < n - i; omega)
  · simp only [hi, decide_false, hcond]
    obtain rfl : i = n := by omega
    exact hQ M1 k2 k3
def RotOk (P : Program) (gr : Nat) (enc : α → List HV) (sz : Nat) (z : α) (rest : List HV) (s : HS) (q N : Nat) (f : Bool) (cmp : HV) : Prop :=
  ∀ (M : List α) (a m b : Nat) (Q : HV → HS → Prop), M.length = N → a < m → m < b → b ≤ N → (∀ M', Kept z M M' a b → (∀ x, M'.getD x z = rotF (fun k => M.getD k z) a m b x) → Q (.tup []) (Lay enc rest s q M')) →
    HC P gr [.view q 0 sz N f, .lit (.int .i64 (a : Int)), .lit (.int .i64 (m : Int)), .lit (.int .i64 (b : Int)), cmp] (Lay enc rest s q M) Q
theorem rot_ok {u3 gw : Nat} (hw : SwrOk P gw enc sz z rest s q N f cmp) {M : List α} {a m b : Nat} {Q : HV → HS → Prop} (hN : M.length = N) (hl : N < 1099511627776) (h1 : a < m) (h2 : m < b) (h3 : b ≤ N)
    (hQ : ∀ M', Kept z M M' a b → (∀ x, M'.getD x z = rotF (fun k => M.getD k z) a m b x) → Q (.tup []) (Lay enc rest s q M')) :
    rotT P sz u3 gw (.view q 0 sz N f) (.lit (.int .i64 (a : Int))) (.lit (.int .i64 (m : Int))) (.lit (.int .i64 (b : Int))) cmp (Lay enc rest s q M) Q := by
  unfold rotT
  simp only [sub_i (show a ≤ m by omega) (show m < 9223372036854775808 by omega), sub_i (show m ≤ b by omega) (show b < 9223372036854775808 by omega), bindO]
  refine HLoop.ghost (σ := Nat × Nat × List α) (fun g => [.lit (.int .i64 (g.1 : Int)), .lit (.int .i64 (g.2.1 : Int))]) (fun g t => 0 < g.1 ∧ 0 < g.2.1 ∧ g.1 + a ≤ m ∧ m + g.2.1 ≤ b ∧ Kept z M g.2.2 a b ∧ (∀ x, rotF (fun k => M.getD k z) a m b x = rotF (fun k => g.2.2.getD k z) (m - g.1) m (m + g.2.1) x) ∧ t = Lay enc rest s q g.2.2) (fun g => g.1 + g.2.1) (m - a, b - m, M) rfl
    ⟨by show 0 < m - a; omega, by show 0 < b - m; omega, by show m - a + a ≤ m; omega, by show m + (b - m) ≤ b; omega, Kept.refl _ _ _, fun x => by show _ = rotF _ (m - (m - a)) m (m + (b - m)) x; rw [show m - (m - a) = a by omega, show m + (b - m) = b by omega], rfl⟩ ?_
  rintro ⟨i, j, M1⟩ t K ⟨k1, k2, k3, k4, k5, k6, rfl⟩ hK
  simp only at k1 k2 k3 k4 k5 k6
  have hlen := k5.len
  simp only [List.headD_cons, List.tail_cons, neq_i]
  by_cases hij : i = j
  · subst hij
    simp only [ne_eq, not_true_eq_false, decide_false, hcond, sub_i (show i ≤ m by omega) (show m < 9223372036854775808 by omega)]
    refine hw M1 (m - i) m i _ (by omega) (by omega) (by omega) fun M' e1 e2 => ?_
    refine hQ M' (k5.trans (e1.wide (by omega) (by omega))) fun x => ?_
    rw [e2, k6, rot_end _ (by omega)]
  · simp only [ne_eq, hij, not_false_eq_true, decide_true, hcond, gtr_i]
    by_cases hgt : j < i
    · simp only [hgt, decide_true, sub_i (show i ≤ m by omega) (show m < 9223372036854775808 by omega)]
      refine hw M1 (m - i) m j _ (by omega) (by omega) (by omega) fun M' e1 e2 => ?_
      rw [sub_i (show j ≤ i by omega) (show i < 9223372036854775808 by omega)]
      refine hK (i - j, j, M') _ _ rfl ⟨by show 0 < i - j; omega, k2, by show i - j + a ≤ m; omega, k4, k5.trans (e1.wide (by omega) (by omega)), fun x => ?_, rfl⟩ (by show i - j + j < i + j; omega)
      rw [k6, rot_step1 _ (by omega) hgt]
      exact rot_congr (fun y => (e2 y).symm) _ _ _ _
    · simp only [hgt, decide_false, sub_i (show i ≤ m by omega) (show m < 9223372036854775808 by omega), add_i (show m + j < 9223372036854775808 by omega), sub_i (show i ≤ m + j by omega) (show m + j < 9223372036854775808 by omega)]
      refine hw M1 (m - i) (m + j - i) i _ (by omega) (by omega) (by omega) fun M' e1 e2 => ?_
      rw [sub_i (show i ≤ j by omega) (show j < 9223372036854775808 by omega)]
      refine hK (i, j - i, M') _ _ rfl ⟨k1, by show 0 < j - i; omega, k3, by show m + (j - i) ≤ b; omega, k5.trans (e1.wide (by omega) (by omega)), fun x => ?_, rfl⟩ (by show i + (j - i) < i + j; omega)
      rw [k6, rot_step2 _ (by omega) (by omega)]
      exact rot_congr (fun y => (e2 y).symm) _ _ _ _
end
end Go.Proofs.YtkcgokkgefgcjaaGreatDoor.H
end
section
namespace Go.Proofs.YtkcgokkgefgcjaaGreatDoor.H
open Go.RowKit Go.MapKept
set_option linter.unusedVariables false
set_option linter.unusedSimpArgs false
section
variable {P : Program} {α : Type} {enc : α → List HV} {sz : Nat} {z : α} {rest : List HV} {s : HS} {q : Nat} {lt : α → α → Bool} {N : Nat} {f : Bool} {cmp : HV}
theorem u64_i {n : Nat} (h : n < 9223372036854775808) : vToInt .u64 (.lit (.int .i64 (n : Int))) = some (.lit (.int .u64 (n : Int))) := by
  have e1 : IntKind.u64.wrap (n : Int) = (n : Int) := by
    have : IntKind.u64.wrap (n : Int) = (n : Int) % 18446744073709551616 := by simp [IntKind.wrap, IntKind.signed, IntKind.bits]
    rw [this]; omega
  simp only [vToInt, e1]
theorem shr_i (n : Nat) : vBin .shr (.lit (.int .u64 (n : Int))) (.lit (.int .u64 1)) = some (.lit (.int .u64 ((n / 2 : Nat) : Int))) := by
  have e2 : (n : Int).fdiv (2 ^ (min (1 : Int).toNat 64)) = ((n / 2 : Nat) : Int) := by
    show (n : Int).fdiv 2 = _
    rw [Int.fdiv_eq_ediv_of_nonneg _ (by omega)]
    omega
  show (if (1 : Int) < 0 then none else some (HV.lit (.int .u64 ((n : Int).fdiv (2 ^ (min (1 : Int).toNat 64)))))) = _
  rw [if_neg (by omega), e2]
theorem i64_i {n : Nat} (h : n < 9223372036854775808) : vToInt .i64 (.lit (.int .u64 (n : Int))) = some (.lit (.int .i64 (n : Int))) := by
  simp only [vToInt]
  rw [w64 (by omega) (by omega)]
def SymOk (P : Program) (gs : Nat) (enc : α → List HV) (sz : Nat) (z : α) (lt : α → α → Bool) (rest : List HV) (s : HS) (q N : Nat) (f : Bool) (cmp : HV) (d : Nat) : Prop :=
  ∀ (M : List α) (a m b : Nat) (Q : HV → HS → Prop), b - a < d → M.length = N → a < m → m < b → b ≤ N → SO z lt M a m → SO z lt M m b → (∀ M', Kept z M M' a b → SO z lt M' a b → Q (.tup []) (Lay enc rest s q M')) →
    HC P gs [.view q 0 sz N f, .lit (.int .i64 (a : Int)), .lit (.int .i64 (m : Int)), .lit (.int .i64 (b : Int)), cmp] (Lay enc rest s q M) Q
theorem sym_step {u3 gr gs : Nat} (hO : Ordr lt) (h : ∀ x, (enc x).length = sz) (ho : ∀ x, ∀ y ∈ enc x, hone y = true) (hc : CmpOk P cmp enc lt rest s q) (hr : RotOk P gr enc sz z rest s q N f cmp)
    {M : List α} {a m b : Nat} {Q : HV → HS → Prop} (ih : SymOk P gs enc sz z lt rest s q N f cmp (b - a)) (hN : M.length = N) (hl : N < 1099511627776) (h1 : a < m) (h2 : m < b) (h3 : b ≤ N) (s1 : SO z lt M a m) (s2 : SO z lt M m b)
    (hQ : ∀ M', Kept z M M' a b → SO z lt M' a b → Q (.tup []) (Lay enc rest s q M')) :
    symT P sz u3 gr gs (.view q 0 sz N f) (.lit (.int .i64 (a : Int))) (.lit (.int .i64 (m : Int))) (.lit (.int .i64 (b : Int))) cmp (Lay enc rest s q M) Q := by
  have t1 : SOf lt (fun k => M.getD k z) a m := s1
  have t2 : SOf lt (fun k => M.getD k z) m b := s2
  have ld : ∀ i, i < N → vLoad (Lay enc rest s q M) (.ptr q (i * sz)) sz true = some (.agg (enc (M.getD i z))) := fun i hi => lay_load h M (by omega)
  have lss0 : ∀ n : Int, vBin .lss (.lit (.int .i64 n)) (.lit (.int .i64 0)) = some (.lit (.bool (decide (n < 0)))) := fun n => lt0
  unfold symT
  simp only [sub_i (show a ≤ m by omega) (show m < 9223372036854775808 by omega), bindO]
  rw [wlit1, eql_i]
  by_cases hc1 : m - a = 1
  · obtain rfl : m = a + 1 := by omega
    simp only [hc1, decide_true, hcond]
    refine HLoop.ghost (σ := Nat × Nat) (fun g => [.lit (.int .i64 (g.1 : Int)), .lit (.int .i64 (g.2 : Int))]) (fun g t => t = Lay enc rest s q M ∧ a + 1 ≤ g.1 ∧ g.1 ≤ g.2 ∧ g.2 ≤ b ∧ (∀ k, a + 1 ≤ k → k < g.1 → lt (M.getD k z) (M.getD a z) = true) ∧ (∀ k, g.2 ≤ k → k < b → lt (M.getD k z) (M.getD a z) = false)) (fun g => g.2 - g.1) (a + 1, b) rfl
      ⟨rfl, Nat.le_refl _, by show a + 1 ≤ b; omega, Nat.le_refl _, fun k k1 k2 => by simp only at k2; omega, fun k k1 k2 => by simp only at k1; omega⟩ ?_
    rintro ⟨i, j⟩ t K ⟨rfl, k1, k2, k3, k4, k5⟩ hK
    simp only at k1 k2 k3 k4 k5
    simp only [List.headD_cons, List.tail_cons, lss_i]
    by_cases hij : i < j
    · simp only [hij, decide_true, add_i (show i + j < 9223372036854775808 by omega), u64_i (show i + j < 9223372036854775808 by omega), shr_i, i64_i (show (i + j) / 2 < 9223372036854775808 by omega)]
      obtain ⟨c, hcd⟩ : ∃ c, c = (i + j) / 2 := ⟨_, rfl⟩
      have hci : i ≤ c := by omega
      have hcj : c < j := by omega
      rw [← hcd]
      simp only [lay_idx (show c < N by omega), lay_idx (show a < N by omega), ld c (by omega), ld a (by omega)]
      refine hc M _ _ _ fun n hn => ?_
      simp only [lss0]
      by_cases hn0 : n < 0
      · simp only [hn0, decide_true, add_i (show c + 1 < 9223372036854775808 by omega)]
        have hl0 := hn.1 hn0
        refine hK (c + 1, j) _ _ rfl ⟨rfl, by show a + 1 ≤ c + 1; omega, by show c + 1 ≤ j; omega, k3, fun k g1 g2 => ?_, k5⟩ (by show j - (c + 1) < j - i; omega)
        simp only at g2
        cases e : lt (M.getD k z) (M.getD a z) with
        | true => rfl
        | false =>
          have := hO.trans _ _ _ e (t2.le hO (i := k) (j := c) (by omega) (by omega) (by omega))
          rw [hl0] at this; cases this
      · simp only [hn0, decide_false]
        have hl0 : lt (M.getD c z) (M.getD a z) = false := by
          cases e : lt (M.getD c z) (M.getD a z) with
          | false => rfl
          | true => exact absurd (hn.2 e) hn0
        refine hK (i, c) _ _ rfl ⟨rfl, k1, hci, by show c ≤ b; omega, k4, fun k g1 g2 => ?_⟩ (by show c - i < j - i; omega)
        simp only at g1
        exact hO.trans _ _ _ hl0 (t2.le hO (i := c) (j := k) (by omega) (by omega) (by omega))
    · simp only [hij, decide_false]
      obtain rfl : i = j := by omega
      refine HLoop.ghost (σ := Nat × List α) (fun g => [.lit (.int .i64 (g.1 : Int))]) (fun g t => a ≤ g.1 ∧ g.1 ≤ i - 1 ∧ Kept z M g.2 a b ∧ (∀ x, g.2.getD x z = shR (fun k => M.getD k z) a g.1 x) ∧ t = Lay enc rest s q g.2) (fun g => i - g.1) (a, M) rfl
        ⟨Nat.le_refl _, by show a ≤ i - 1; omega, Kept.refl _ _ _, fun x => by rw [shR_zero], rfl⟩ ?_
      rintro ⟨k, M1⟩ t K2 ⟨g1, g2, g3, g4, rfl⟩ hK2
      simp only at g1 g2 g3 g4
      have hlen := g3.len
      simp only [List.headD_cons, sub_i (show 1 ≤ i by omega) (show i < 9223372036854775808 by omega), lss_i]
      by_cases hki : k < i - 1
      · simp only [hki, decide_true, add_i (show k + 1 < 9223372036854775808 by omega), lay_idx (show k + 1 < N by omega), lay_idx (show k < N by omega), lay_load (z := z) h M1 (show k + 1 < M1.length by omega), lay_load (z := z) h M1 (show k < M1.length by omega)]
        refine swap_walk (M := M1) (i := k) (j := k + 1) h ho (by omega) (by omega) ?_
        exact hK2 (k + 1, swap z M1 k (k + 1)) _ _ rfl ⟨by show a ≤ k + 1; omega, by show k + 1 ≤ i - 1; omega, g3.trans (Kept.swap (by omega) (by omega) (by omega) (by omega) (by omega) (by omega)), shR_step g4 g1 (by omega), rfl⟩ (by show i - (k + 1) < i - k; omega)
      · simp only [hki, decide_false]
        obtain rfl : k = i - 1 := by omega
        refine hQ M1 g3 ?_
        have := shR_so hO t2 k1 k3 k4 k5
        rw [so_iff, show (fun k => M1.getD k z) = shR (fun k => M.getD k z) a (i - 1) from funext g4]
        exact this
  · simp only [hc1, decide_false, hcond, sub_i (show m ≤ b by omega) (show b < 9223372036854775808 by omega), eql_i]
    by_cases hc2 : b - m = 1
    · obtain rfl : b = m + 1 := by omega
      simp only [hc2, decide_true]
      refine HLoop.ghost (σ := Nat × Nat) (fun g => [.lit (.int .i64 (g.1 : Int)), .lit (.int .i64 (g.2 : Int))]) (fun g t => t = Lay enc rest s q M ∧ a ≤ g.1 ∧ g.1 ≤ g.2 ∧ g.2 ≤ m ∧ (∀ k, a ≤ k → k < g.1 → lt (M.getD m z) (M.getD k z) = false) ∧ (∀ k, g.2 ≤ k → k < m → lt (M.getD m z) (M.getD k z) = true)) (fun g => g.2 - g.1) (a, m) rfl
        ⟨rfl, Nat.le_refl _, by show a ≤ m; omega, Nat.le_refl _, fun k k1 k2 => by simp only at k2; omega, fun k k1 k2 => by simp only at k1; omega⟩ ?_
      rintro ⟨i, j⟩ t K ⟨rfl, k1, k2, k3, k4, k5⟩ hK
      simp only at k1 k2 k3 k4 k5
      simp only [List.headD_cons, List.tail_cons, lss_i]
      by_cases hij : i < j
      · simp only [hij, decide_true, add_i (show i + j < 9223372036854775808 by omega), u64_i (show i + j < 9223372036854775808 by omega), shr_i, i64_i (show (i + j) / 2 < 9223372036854775808 by omega)]
        obtain ⟨c, hcd⟩ : ∃ c, c = (i + j) / 2 := ⟨_, rfl⟩
        have hci : i ≤ c := by omega
        have hcj : c < j := by omega
        rw [← hcd]
        simp only [lay_idx (show c < N by omega), lay_idx (show m < N by omega), ld c (by omega), ld m (by omega)]
        refine hc M _ _ _ fun n hn => ?_
        simp only [lss0, vUn]
        by_cases hn0 : n < 0
        · simp only [hn0, decide_true, Bool.not_true]
          have hl0 := hn.1 hn0
          refine hK (i, c) _ _ rfl ⟨rfl, k1, hci, by show c ≤ m; omega, k4, fun k g1 g2 => ?_⟩ (by show c - i < j - i; omega)
          simp only at g1
          cases e : lt (M.getD m z) (M.getD k z) with
          | true => rfl
          | false =>
            have := hO.trans _ _ _ (t1.le hO (i := c) (j := k) (by omega) (by omega) (by omega)) e
            rw [hl0] at this; cases this
        · simp only [hn0, decide_false, Bool.not_false, add_i (show c + 1 < 9223372036854775808 by omega)]
          have hl0 : lt (M.getD m z) (M.getD c z) = false := by
            cases e : lt (M.getD m z) (M.getD c z) with
            | false => rfl
            | true => exact absurd (hn.2 e) hn0
          refine hK (c + 1, j) _ _ rfl ⟨rfl, by show a ≤ c + 1; omega, by show c + 1 ≤ j; omega, k3, fun k g1 g2 => ?_, k5⟩ (by show j - (c + 1) < j - i; omega)
          simp only at g2
          exact hO.trans _ _ _ (t1.le hO (i := k) (j := c) (by omega) (by omega) (by omega)) hl0
      · simp only [hij, decide_false]
        obtain rfl : i = j := by omega
        refine HLoop.ghost (σ := Nat × List α) (fun g => [.lit (.int .i64 (g.1 : Int))]) (fun g t => i ≤ g.1 ∧ g.1 ≤ m ∧ Kept z M g.2 a (m + 1) ∧ (∀ x, g.2.getD x z = shL (fun k => M.getD k z) m g.1 x) ∧ t = Lay enc rest s q g.2) (fun g => g.1) (m, M) rfl
          ⟨k3, Nat.le_refl _, Kept.refl _ _ _, fun x => by rw [shL_zero], rfl⟩ ?_
        rintro ⟨k, M1⟩ t K2 ⟨g1, g2, g3, g4, rfl⟩ hK2
        simp only at g1 g2 g3 g4
        have hlen := g3.len
        simp only [List.headD_cons, gtr_i]
        by_cases hki : i < k
        · simp only [hki, decide_true, sub_i (show 1 ≤ k by omega) (show k < 9223372036854775808 by omega), lay_idx (show k - 1 < N by omega), lay_idx (show k < N by omega), lay_load (z := z) h M1 (show k - 1 < M1.length by omega), lay_load (z := z) h M1 (show k < M1.length by omega)]
          refine swap_walk (M := M1) (i := k) (j := k - 1) h ho (by omega) (by omega) ?_
          exact hK2 (k - 1, swap z M1 k (k - 1)) _ _ rfl ⟨by show i ≤ k - 1; omega, by show k - 1 ≤ m; omega, g3.trans (Kept.swap (by omega) (by omega) (by omega) (by omega) (by omega) (by omega)), shL_step g4 g2 (by omega) (by omega), rfl⟩ (by show k - 1 < k; omega)
        · simp only [hki, decide_false]
          obtain rfl : k = i := by omega
          refine hQ M1 g3 ?_
          have := shL_so hO t1 k1 k3 k4 k5
          rw [so_iff, show (fun k => M1.getD k z) = shL (fun k => M.getD k z) m k from funext g4]
          exact this
    · simp only [hc2, decide_false, add_i (show a + b < 9223372036854775808 by omega), u64_i (show a + b < 9223372036854775808 by omega), shr_i, i64_i (show (a + b) / 2 < 9223372036854775808 by omega)]
      obtain ⟨mid, hmd⟩ : ∃ mid, mid = (a + b) / 2 := ⟨_, rfl⟩
      rw [← hmd]
      simp only [add_i (show mid + m < 9223372036854775808 by omega)]
      refine Join.of (fun xs t => t = Lay enc rest s q M ∧ ∃ lo hi : Nat, xs = [.lit (.int .i64 (lo : Int)), .lit (.int .i64 (hi : Int))] ∧ (mid < m ∧ lo = mid + m - b ∧ hi = mid ∨ m ≤ mid ∧ lo = a ∧ hi = m)) ?_ ?_
      rotate_left
      · intro K hK
        simp only [gtr_i]
        by_cases hgt : mid < m
        · simp only [hgt, decide_true, sub_i (show b ≤ mid + m by omega) (show mid + m < 9223372036854775808 by omega)]
          exact hK _ _ ⟨rfl, _, _, rfl, .inl ⟨hgt, rfl, rfl⟩⟩
        · simp only [hgt, decide_false]
          exact hK _ _ ⟨rfl, _, _, rfl, .inr ⟨by omega, rfl, rfl⟩⟩
      rintro _ t ⟨rfl, lo, hi, rfl, hlh⟩
      simp only [List.headD_cons, List.tail_cons, sub_i (show 1 ≤ mid + m by omega) (show mid + m < 9223372036854775808 by omega)]
      have hlo1 : a ≤ lo := by omega
      have hlo2 : lo ≤ hi := by omega
      have hlo3 : hi ≤ m := by omega
      have hlo4 : hi ≤ mid := by omega
      have hlo5 : mid + m ≤ lo + b := by omega
      have hlo6 : mid + m - 1 - (hi - 1) ≤ mid + m := by omega
      have hpm : ∀ c, c < hi → m ≤ mid + m - 1 - c := fun c hc => by omega
      have hpb : ∀ c, lo ≤ c → mid + m - 1 - c < b := fun c hc => by omega
      refine HLoop.ghost (σ := Nat × Nat) (fun g => [.lit (.int .i64 (g.1 : Int)), .lit (.int .i64 (g.2 : Int))]) (fun g t => t = Lay enc rest s q M ∧ lo ≤ g.1 ∧ g.1 ≤ g.2 ∧ g.2 ≤ hi ∧ (∀ c, lo ≤ c → c < g.1 → lt (M.getD (mid + m - 1 - c) z) (M.getD c z) = false) ∧ (∀ c, g.2 ≤ c → c < hi → lt (M.getD (mid + m - 1 - c) z) (M.getD c z) = true)) (fun g => g.2 - g.1) (lo, hi) rfl
        ⟨rfl, Nat.le_refl _, hlo2, Nat.le_refl _, fun k k1 k2 => by simp only at k2; omega, fun k k1 k2 => by simp only at k1; omega⟩ ?_
      rintro ⟨i, j⟩ t K ⟨rfl, k1, k2, k3, k4, k5⟩ hK
      simp only at k1 k2 k3 k4 k5
      simp only [List.headD_cons, List.tail_cons, lss_i]
      by_cases hij : i < j
      · simp only [hij, decide_true, add_i (show i + j < 9223372036854775808 by omega), u64_i (show i + j < 9223372036854775808 by omega), shr_i, i64_i (show (i + j) / 2 < 9223372036854775808 by omega)]
        obtain ⟨c, hcd⟩ : ∃ c, c = (i + j) / 2 := ⟨_, rfl⟩
        have hci : i ≤ c := by omega
        have hcj : c < j := by omega
        rw [← hcd]
        have p1 := hpm c (by omega)
        have p2 := hpb c (by omega)
        simp only [sub_i (show c ≤ mid + m - 1 by omega) (show mid + m - 1 < 9223372036854775808 by omega), lay_idx (show c < N by omega), lay_idx (show mid + m - 1 - c < N by omega), ld c (by omega), ld (mid + m - 1 - c) (by omega)]
        refine hc M _ _ _ fun n hn => ?_
        simp only [lss0, vUn]
        by_cases hn0 : n < 0
        · simp only [hn0, decide_true, Bool.not_true]
          have hl0 := hn.1 hn0
          refine hK (i, c) _ _ rfl ⟨rfl, k1, hci, by show c ≤ hi; omega, k4, fun k g1 g2 => ?_⟩ (by show c - i < j - i; omega)
          simp only at g1
          have p3 := hpm k g2
          cases e : lt (M.getD (mid + m - 1 - k) z) (M.getD k z) with
          | true => rfl
          | false =>
            have := hO.le3 (t1.le hO (i := c) (j := k) (by omega) (by omega) (by omega)) e (t2.le hO (i := mid + m - 1 - k) (j := mid + m - 1 - c) p3 (by omega) (by omega))
            rw [hl0] at this; cases this
        · simp only [hn0, decide_false, Bool.not_false, add_i (show c + 1 < 9223372036854775808 by omega)]
          have hl0 : lt (M.getD (mid + m - 1 - c) z) (M.getD c z) = false := by
            cases e : lt (M.getD (mid + m - 1 - c) z) (M.getD c z) with
            | false => rfl
            | true => exact absurd (hn.2 e) hn0
          refine hK (c + 1, j) _ _ rfl ⟨rfl, by show lo ≤ c + 1; omega, by show c + 1 ≤ j; omega, k3, fun k g1 g2 => ?_, k5⟩ (by show j - (c + 1) < j - i; omega)
          simp only at g2
          have p4 := hpb k g1
          exact hO.le3 (t1.le hO (i := k) (j := c) (by omega) (by omega) (by omega)) hl0 (t2.le hO (i := mid + m - 1 - c) (j := mid + m - 1 - k) (by omega) (by omega) p4)
      · simp only [hij, decide_false]
        obtain rfl : i = j := by omega
        have hcut : Cut lt (fun k => M.getD k z) a m b mid i := ⟨by omega, by omega, by omega, by omega, fun c c1 c2 c3 => by
            have := k4 c (by omega) c3
            rwa [show mid + m - 1 - c = m + mid - 1 - c by omega] at this, fun c c1 c2 c3 => by
            have := k5 c c1 (by omega)
            rwa [show mid + m - 1 - c = m + mid - 1 - c by omega] at this⟩
        have hcr := cut_cross hO t1 t2 hcut (by omega) (by omega) (by omega) (by omega)
        have r1 := rot_so1 (b := b) (mid := mid) t1 hcut.hm
        have r2 := rot_so2 (a := a) t2 hcut.hm hcut.hd hcut.e1
        have r3 := rot_so3 (b := b) t1 hcut.lo hcut.hm hcut.hd
        have r4 := rot_so4 (a := a) t2 hcut.hm hcut.hd
        have q1 := hcut.lo
        have q2 := hcut.hm
        have q3 := hcut.hd
        have q4 := hcut.e1
        obtain ⟨e, hed⟩ : ∃ e, e = m + mid - i := ⟨_, rfl⟩
        rw [← hed] at hcr r1 r2 r3 r4
        simp only [sub_i (show i ≤ mid + m by omega) (show mid + m < 9223372036854775808 by omega)]
        rw [show mid + m - i = e by omega]
        refine Join.of (fun xs t => ∃ M1, t = Lay enc rest s q M1 ∧ Kept z M M1 a b ∧ ∀ x, M1.getD x z = rotF (fun k => M.getD k z) i m e x) ?_ ?_
        rotate_left
        · intro K1 hK1
          refine Join.of (fun xs t => t = Lay enc rest s q M ∧ xs = [.lit (.bool (decide (i < m ∧ m < e)))]) ?_ ?_
          rotate_left
          · intro K2 hK2
            simp only [lss_i]
            by_cases g1 : i < m
            · simp only [g1, decide_true]
              refine hK2 _ _ ⟨rfl, by simp [g1]⟩
            · simp only [g1, decide_false]
              refine hK2 _ _ ⟨rfl, by simp [g1]⟩
          rintro _ t ⟨rfl, rfl⟩
          simp only [List.headD_cons]
          by_cases g : i < m ∧ m < e
          · simp only [g, and_self, decide_true]
            refine hr M i m e _ hN g.1 g.2 (by omega) fun M' g1 g2 => ?_
            exact hK1 _ _ ⟨M', rfl, g1.wide (by omega) (by omega), g2⟩
          · simp only [g, decide_false]
            refine hK1 _ _ ⟨M, rfl, Kept.refl _ _ _, fun x => ?_⟩
            by_cases g1 : i < m
            · obtain rfl : e = m := by omega
              rw [rot_idR]
            · obtain rfl : i = m := by omega
              rw [rot_idL]
        rintro _ t ⟨M1, rfl, kp1, hM1⟩
        have hlen1 := kp1.len
        have hf1 : (fun k => M1.getD k z) = rotF (fun k => M.getD k z) i m e := funext hM1
        rw [← hf1] at hcr r1 r2 r3 r4
        refine Join.of (fun xs t => ∃ M2, t = Lay enc rest s q M2 ∧ Kept z M1 M2 a mid ∧ SO z lt M2 a mid) ?_ ?_
        rotate_left
        · intro K1 hK1
          refine Join.of (fun xs t => t = Lay enc rest s q M1 ∧ xs = [.lit (.bool (decide (a < i ∧ i < mid)))]) ?_ ?_
          rotate_left
          · intro K2 hK2
            try simp only [lss_i]
            by_cases g1 : a < i
            · simp only [g1, decide_true]
              refine hK2 _ _ ⟨rfl, by simp [g1]⟩
            · simp only [g1, decide_false]
              refine hK2 _ _ ⟨rfl, by simp [g1]⟩
          rintro _ t ⟨rfl, rfl⟩
          simp only [List.headD_cons]
          by_cases g : a < i ∧ i < mid
          · simp only [g, and_self, decide_true]
            refine ih M1 a i mid _ (by omega) (by omega) g.1 g.2 (by omega) r1 r2 fun M' g1 g2 => ?_
            exact hK1 _ _ ⟨M', rfl, g1, g2⟩
          · simp only [g, decide_false]
            refine hK1 _ _ ⟨M1, rfl, Kept.refl _ _ _, ?_⟩
            by_cases g1 : a < i
            · obtain rfl : i = mid := by omega
              exact r1
            · obtain rfl : i = a := by omega
              exact r2
        rintro _ t ⟨M2, rfl, kp2, hs2⟩
        have hlen2 := kp2.len
        have hcr2 := hcr.left kp2
        have r3' : SO z lt M2 mid e := SO.of_out (M := M1) r3 kp2 (.inr (Nat.le_refl _))
        have r4' : SO z lt M2 e b := SO.of_out (M := M1) r4 kp2 (.inr (by omega))
        have hfin : ∀ M3, Kept z M2 M3 mid b → SO z lt M3 mid b → Q (.tup []) (Lay enc rest s q M3) := fun M3 kp3 hs3 => by
          refine hQ M3 ((kp1.trans (kp2.wide (Nat.le_refl _) (by omega))).trans (kp3.wide (by omega) (Nat.le_refl _))) ?_
          exact so_join (m := mid) (SO.of_out hs2 kp3 (.inl (Nat.le_refl _))) hs3 (hcr2.right kp3)
        refine Join.of (fun xs t => t = Lay enc rest s q M2 ∧ xs = [.lit (.bool (decide (mid < e ∧ e < b)))]) ?_ ?_
        rotate_left
        · intro K2 hK2
          try simp only [lss_i]
          by_cases g1 : mid < e
          · simp only [g1, decide_true]
            refine hK2 _ _ ⟨rfl, by simp [g1]⟩
          · simp only [g1, decide_false]
            refine hK2 _ _ ⟨rfl, by simp [g1]⟩
        rintro _ t ⟨rfl, rfl⟩
        simp only [List.headD_cons]
        by_cases g : mid < e ∧ e < b
        · simp only [g, and_self, decide_true]
          exact ih M2 mid e b _ (by omega) (by omega) g.1 g.2 (by omega) r3' r4' hfin
        · simp only [g, decide_false]
          refine hfin M2 (Kept.refl _ _ _) ?_
          by_cases g1 : mid < e
          · obtain rfl : e = b := by omega
            exact r3'
          · obtain rfl : e = mid := by omega
            exact r4'
end
end Go.Proofs.YtkcgokkgefgcjaaGreatDoor.H
end
section
namespace Go.Proofs.YtkcgokkgefgcjaaGreatDoor.H
open Go.RowKit Go.MapKept
set_option linter.unusedVariables false
set_option linter.unusedSimpArgs false
section
variable {P : Program} {α : Type} {enc : α → List HV} {sz : Nat} {z : α} {rest : List HV} {s : HS} {q : Nat} {lt : α → α → Bool} {N : Nat} {f : Bool} {cmp : HV}
def InsOk (P : Program) (gi : Nat) (enc : α → List HV) (sz : Nat) (z : α) (lt : α → α → Bool) (rest : List HV) (s : HS) (q N : Nat) (f : Bool) (cmp : HV) : Prop :=
  ∀ (M : List α) (a b : Nat) (Q : HV → HS → Prop), M.length = N → a ≤ b → b ≤ N → (∀ M', Kept z M M' a b → SO z lt M' a b → Q (.tup []) (Lay enc rest s q M')) →
    HC P gi [.view q 0 sz N f, .lit (.int .i64 (a : Int)), .lit (.int .i64 (b : Int)), cmp] (Lay enc rest s q M) Q
def Blocks (z : α) (lt : α → α → Bool) (M : List α) (c n : Nat) : Prop := ∀ j, SO z lt M (j * c) (min (j * c + c) n)
theorem stb_ok {gi gs : Nat} (hi : InsOk P gi enc sz z lt rest s q N f cmp) (hs : ∀ d, SymOk P gs enc sz z lt rest s q N f cmp d) {M : List α} {Q : HV → HS → Prop} (hN : M.length = N) (hl : N < 1099511627776)
    (hQ : ∀ M', M'.Perm M → SO z lt M' 0 N → Q (.tup []) (Lay enc rest s q M')) :
    stbT P sz gi gs (.view q 0 sz N f) (.lit (.int .i64 (N : Int))) cmp (Lay enc rest s q M) Q := by
  unfold stbT
  rw [wlit0, show HV.lit (.int .i64 20) = .lit (.int .i64 ((20 : Nat) : Int)) from rfl, show HV.lit (.int .i64 2) = .lit (.int .i64 ((2 : Nat) : Int)) from rfl]
  refine HLoop.ghost (σ := Nat × List α) (fun g => [.lit (.int .i64 ((g.1 * 20 : Nat) : Int)), .lit (.int .i64 ((g.1 * 20 + 20 : Nat) : Int))]) (fun g t => g.1 * 20 ≤ N ∧ Kept z M g.2 0 N ∧ (∀ j, j < g.1 → SO z lt g.2 (j * 20) (j * 20 + 20)) ∧ t = Lay enc rest s q g.2) (fun g => N - g.1 * 20) (0, M) rfl
    ⟨by show 0 * 20 ≤ N; omega, Kept.refl _ _ _, fun j hj => by simp only at hj; omega, rfl⟩ ?_
  rintro ⟨k, M1⟩ t K ⟨k1, k2, k3, rfl⟩ hK
  simp only at k1 k2 k3
  have hlen := k2.len
  simp only [List.headD_cons, List.tail_cons, leq_i, bindO]
  by_cases hb : k * 20 + 20 ≤ N
  · simp only [hb, decide_true, hcond]
    refine hi M1 (k * 20) (k * 20 + 20) _ (by omega) (by omega) hb fun M' e1 e2 => ?_
    rw [add_i (show k * 20 + 20 + 20 < 9223372036854775808 by omega)]
    refine hK (k + 1, M') _ _ (by show _ = [HV.lit (.int .i64 (((k + 1) * 20 : Nat) : Int)), HV.lit (.int .i64 (((k + 1) * 20 + 20 : Nat) : Int))]; rw [Nat.succ_mul]) ⟨by show (k + 1) * 20 ≤ N; omega, k2.trans (e1.wide (Nat.zero_le _) hb), fun j hj => ?_, rfl⟩ (by show N - (k + 1) * 20 < N - k * 20; omega)
    simp only at hj ⊢
    by_cases hjk : j = k
    · subst hjk; exact e2
    · exact SO.of_out (k3 j (by omega)) e1 (.inl (by omega))
  · simp only [hb, decide_false, hcond]
    refine hi M1 (k * 20) N _ (by omega) k1 (Nat.le_refl _) fun M' e1 e2 => ?_
    have hB : Blocks z lt M' 20 N := fun j => by
      by_cases hj : j < k
      · rw [Nat.min_eq_left (by omega)]
        exact SO.of_out (k3 j hj) e1 (.inl (by omega))
      · by_cases hjk : j = k
        · subst hjk
          rw [Nat.min_eq_right (by omega)]
          exact e2
        · intro a b g1 g2 g3
          omega
    have kp0 := k2.trans (e1.wide (Nat.zero_le _) (Nat.le_refl _))
    clear e1 e2 k2 k3 k1 hb
    refine HLoop.ghost (σ := Nat × List α) (fun g => [.lit (.int .i64 (g.1 : Int))]) (fun g t => 0 < g.1 ∧ (g.1 = 20 ∨ g.1 < 2 * N) ∧ Kept z M g.2 0 N ∧ Blocks z lt g.2 g.1 N ∧ t = Lay enc rest s q g.2) (fun g => N - g.1) (20, M') rfl ⟨by show 0 < 20; omega, .inl rfl, kp0, hB, rfl⟩ ?_
    rintro ⟨c, M2⟩ t K2 ⟨c1, c2, c3, c4, rfl⟩ hK2
    simp only at c1 c2 c3 c4
    simp only [List.headD_cons, List.tail_cons, lss_i]
    by_cases hc : c < N
    · simp only [hc, decide_true, mul_i (show 2 * c < 9223372036854775808 by omega)]
      obtain ⟨d, hd⟩ : ∃ d, d = 2 * c := ⟨_, rfl⟩
      rw [← hd]
      refine HLoop.ghost (σ := Nat × List α) (fun g => [.lit (.int .i64 ((g.1 * d : Nat) : Int)), .lit (.int .i64 ((g.1 * d + d : Nat) : Int))]) (fun g t => g.1 * d ≤ N ∧ Kept z M g.2 0 N ∧ (∀ j, j < g.1 → SO z lt g.2 (j * d) (j * d + d)) ∧ (∀ j, 2 * g.1 ≤ j → SO z lt g.2 (j * c) (min (j * c + c) N)) ∧ t = Lay enc rest s q g.2) (fun g => N - g.1 * d) (0, M2)
        (by show _ = [HV.lit (.int .i64 ((0 * d : Nat) : Int)), HV.lit (.int .i64 ((0 * d + d : Nat) : Int))]; rw [Nat.zero_mul, Nat.zero_add])
        ⟨by show 0 * d ≤ N; rw [Nat.zero_mul]; omega, c3, fun j hj => by simp only at hj; omega, fun j _ => c4 j, rfl⟩ ?_
      rintro ⟨k, M3⟩ t K3 ⟨k1, k2, k3, k4, rfl⟩ hK3
      simp only at k1 k2 k3 k4
      have hlen3 := k2.len
      have e1 : 2 * k * c = k * d := by rw [hd, Nat.mul_comm 2 k, Nat.mul_assoc]
      have e2 : (2 * k + 1) * c = k * d + c := by rw [Nat.succ_mul, e1]
      have r1 := k4 (2 * k) (Nat.le_refl _)
      have r2 := k4 (2 * k + 1) (by omega)
      rw [e1] at r1
      rw [e2] at r2
      have hlow : ∀ j, j < k → j * d + d ≤ k * d := fun j hj => by
        have := Nat.mul_le_mul_right d (show j + 1 ≤ k from hj)
        rwa [Nat.succ_mul] at this
      have hup : ∀ j, 2 * (k + 1) ≤ j → k * d + d ≤ j * c := fun j hj => by
        have := Nat.mul_le_mul_right c hj
        rw [show 2 * (k + 1) * c = k * d + d by rw [Nat.mul_add, Nat.add_mul, e1]; omega] at this
        exact this
      have hkd2 : (k + 1) * d = k * d + d := Nat.succ_mul k d
      generalize hA : k * d = a at *
      simp only [List.headD_cons, List.tail_cons, leq_i]
      by_cases hb : a + d ≤ N
      · simp only [hb, decide_true, add_i (show a + c < 9223372036854775808 by omega)]
        rw [Nat.min_eq_left (by omega)] at r1 r2
        refine hs _ M3 a (a + c) (a + d) _ (Nat.lt_succ_self _) (by omega) (by omega) (by omega) hb r1 (by rw [show a + d = a + c + c by omega]; exact r2) fun M4 e3 e4 => ?_
        rw [add_i (show a + d + d < 9223372036854775808 by omega)]
        refine hK3 (k + 1, M4) _ _ (by show _ = [HV.lit (.int .i64 (((k + 1) * d : Nat) : Int)), HV.lit (.int .i64 (((k + 1) * d + d : Nat) : Int))]; rw [hkd2]) ⟨by show (k + 1) * d ≤ N; omega, k2.trans (e3.wide (Nat.zero_le _) hb), fun j hj => ?_, fun j hj => ?_, rfl⟩ (by show N - (k + 1) * d < N - a; omega)
        · simp only at hj ⊢
          by_cases hjk : j = k
          · subst hjk; rw [hA]; exact e4
          · exact SO.of_out (k3 j (by omega)) e3 (.inl (hlow j (by omega)))
        · simp only at hj ⊢
          exact SO.of_out (k4 j (by omega)) e3 (.inr (hup j hj))
      · simp only [hb, decide_false]
        have hfin : ∀ M4, Kept z M3 M4 a N → SO z lt M4 a N → K2 [HV.lit (.int .i64 ((2 * c : Nat) : Int))] (Lay enc rest s q M4) := fun M4 e3 e4 => by
          refine hK2 (2 * c, M4) _ _ rfl ⟨by show 0 < 2 * c; omega, .inr (by show 2 * c < 2 * N; omega), k2.trans (e3.wide (Nat.zero_le _) (Nat.le_refl _)), fun j => ?_, rfl⟩ (by show N - 2 * c < N - c; omega)
          rw [← hd]
          show SO z lt M4 (j * d) (min (j * d + d) N)
          by_cases hj : j < k
          · have := hlow j hj
            rw [Nat.min_eq_left (by omega)]
            exact SO.of_out (k3 j hj) e3 (.inl this)
          · by_cases hjk : j = k
            · subst hjk
              rw [hA, Nat.min_eq_right (by omega)]
              exact e4
            · have := Nat.mul_le_mul_right d (show k + 1 ≤ j by omega)
              intro x y g1 g2 g3
              omega
        refine Join.of (fun xs t => ∃ M4, t = Lay enc rest s q M4 ∧ Kept z M3 M4 a N ∧ SO z lt M4 a N) ?_ ?_
        · rintro _ t ⟨M4, rfl, e3, e4⟩
          rw [mul_i (show c * 2 < 9223372036854775808 by omega), Nat.mul_comm c 2]
          exact hfin M4 e3 e4
        · intro K4 hK4
          simp only [add_i (show a + c < 9223372036854775808 by omega), lss_i]
          by_cases hm : a + c < N
          · simp only [hm, decide_true]
            rw [Nat.min_eq_left (by omega)] at r1
            rw [Nat.min_eq_right (by omega)] at r2
            exact hs _ M3 a (a + c) N _ (Nat.lt_succ_self _) (by omega) (by omega) hm (Nat.le_refl _) r1 r2 fun M4 e3 e4 => hK4 _ _ ⟨M4, rfl, e3, e4⟩
          · simp only [hm, decide_false]
            rw [Nat.min_eq_right (by omega)] at r1
            exact hK4 _ _ ⟨M3, rfl, Kept.refl _ _ _, r1⟩
    · simp only [hc, decide_false]
      have := c4 0
      rw [Nat.zero_mul, Nat.min_eq_right (by omega)] at this
      exact hQ M2 c3.perm this
end
end Go.Proofs.YtkcgokkgefgcjaaGreatDoor.H
end
