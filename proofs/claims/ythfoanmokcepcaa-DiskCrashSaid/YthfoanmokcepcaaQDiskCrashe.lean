/- What the proof of the law DiskCrash needs, cut out of the session's own texts by a program (slim.py): part 5. -/
import Derived.Test.YthfoanmokcepcaaQDiskCrashd
section
namespace Go.Proofs.Ythfoanmokcepcaa.DS
open Go.Proofs.Ythfoanmokcepcaa.H Go.Proofs.Ythfoanmokcepcaa.AS Go.Proofs.Ythfoanmokcepcaa.X0
set_option linter.unusedVariables false
set_option linter.unusedSimpArgs false
set_option maxRecDepth 100000
set_option maxHeartbeats 1000000
section
variable {s : HS} {r K : Nat} {D : DK}
/-- A crash's disk on its way. -/
structure Mk (s t : HS) (c : Nat) (D : DK) (l : List Nm) (picks : List Int) (k i : Nat) : Prop where
  hi : i ≤ l.length
  hk : 1 ≤ k ∧ k ≤ i + 1
  le : HS.le s t
  ex : ∃ A N Bs, t c = some (.cells (cC D.room A N nilV)) ∧ Bs.length = i ∧ Acc s t 2 A i (rows ownC Bs) ∧ Acc s t 2 N i (rows nmC (numbered (l.take i) 0)) ∧ accId A ≠ some c ∧ accId N ≠ some c ∧ (∀ j, accId A = some j → accId N ≠ some j) ∧ (∀ x ∈ Bs, BV s t c A N x) ∧ Bs.Pairwise (fun x y => ∀ p, accId x.1 = some p → accId y.1 ≠ some p) ∧ crashF D.files l picks.tail = Bs.map (·.2) ++ crashF D.files (l.drop i) (picks.drop k)
theorem crashF_cons (files : List Fl) (x : Nm) (l : List Nm) (pk : List Int) : crashF files (x :: l) pk = if (files.getD x.2 fl0).safe < (files.getD x.2 fl0).b.length then ⟨(files.getD x.2 fl0).b.take ((files.getD x.2 fl0).safe + part pk ((files.getD x.2 fl0).b.length - (files.getD x.2 fl0).safe)).toNat, (files.getD x.2 fl0).safe + part pk ((files.getD x.2 fl0).b.length - (files.getD x.2 fl0).safe)⟩ :: crashF files l pk.tail else ⟨(files.getD x.2 fl0).b.take (files.getD x.2 fl0).safe.toNat, (files.getD x.2 fl0).safe⟩ :: crashF files l pk := rfl
theorem crash33 (hr : s r = some (.cells (rC D))) (hw : Wf K D) (hc : Ch D) (picks : List Int) (hK : 2 * K ≤ 1000000) :
    HC Try.prog 33 [.ptr r 0, rowL intC 1 picks] s (fun v t => ∃ c, s c = none ∧ v = .ptr c 0 ∧ t = s.set c (.cells (rC (D.crash picks)))) := by
  refine HC.up (HC33 ?_)
  unfold c33
  have ld0 := fun k => ld_at hr k
  simp only [hvNil, hvFld, bindO, ld0, rC, List.getElem?_cons_succ, List.getElem?_cons_zero]
  rw [show vMk [(0, 1), (1, 1), (2, 1), (3, 1), (4, 1), (5, 1), (6, 1), (7, 1)] [.lit (.int .i64 0), .lit (.slice none 0 0), .lit (.slice none 0 0), .lit (.slice none 0 0), .lit (.slice none 0 0), .lit (.int .i64 0), .lit (.bool false), .lit (.int .i64 0)] [(0, .lit (.int .i64 D.room)), (5, (.lit (.int .i64 (-1))))] = some (.agg (cC D.room nilV nilV nilV)) from rfl]
  simp only
  refine hbox_intro (hc_agg _) fun c hcn => ?_
  have hle1 := le_set_new (.cells (cC D.room nilV nilV nilV)) (le_refl' s) hcn
  have hc1 : (s.set c (.cells (cC D.room nilV nilV nilV))) c = some (.cells (cC D.room nilV nilV nilV)) := set_at _ _ _
  generalize s.set c (.cells (cC D.room nilV nilV nilV)) = s1 at *
  have lr : ∀ u, HS.le s u → ∀ k, vLoad u (.ptr r k) 1 false = (rC D)[k]? := fun u hu k => ld_at (hu _ _ hr) k
  have lr1 : ∀ u, HS.le s u → vLoad u (.ptr r 1) 1 false = some (rowL filC 2 D.files) := fun u hu => lr u hu 1
  have lr4 : ∀ u, HS.le s u → vLoad u (.ptr r 4) 1 false = some (rowL acC 4 D.acts) := fun u hu => lr u hu 4
  have lr3 : ∀ u, HS.le s u → vLoad u (.ptr r 3) 1 false = some (rowL nmC 2 D.safe) := fun u hu => lr u hu 3
  have hna := hw.na
  have hns := hw.nsf
  simp only [lr3 s1 hle1, lr4 s1 hle1]
  rw [show vLenT (Try.prog.underlying 66) s1 (rowL acC 4 D.acts) = some (.lit (.int .i64 ((D.acts.length : Nat) : Int))) from rfl]
  simp only
  rw [add_n (by omega) (by omega)]
  simp only
  refine (round54 picks 0 (n := (D.acts.length : Int) + 1) (by omega) s1).mono ?_
  rintro _ t0 ⟨rfl, rfl⟩
  rw [List.drop_zero, Int.add_sub_cancel]
  obtain ⟨b1, b2⟩ := part_bd picks (n := (D.acts.length : Nat)) (by omega)
  obtain ⟨p, hpe⟩ : ∃ p : Nat, part picks (D.acts.length : Nat) = (p : Int) := ⟨(part picks (D.acts.length : Nat)).toNat, by omega⟩
  have hple : p ≤ D.acts.length := by omega
  rw [hpe]
  have hlen : ∀ i, ((D.acts.take i).foldl applyA D.safe).length ≤ 2 * K := fun i => by
    have h1 := len_foldl (D.acts.take i) D.safe
    have h2 : (D.acts.take i).length ≤ D.acts.length := by rw [List.length_take]; omega
    omega
  refine HLoop.ghost (σ := Nat) (fun i => [rowL nmC 2 ((D.acts.take i).foldl applyA D.safe), .lit (.int .i64 (i : Int))]) (fun i u => i ≤ p ∧ u = t0) (fun i => p - i) 0 rfl ⟨Nat.zero_le _, rfl⟩ ?_
  rintro i u K1 ⟨h1, rfl⟩ hK1
  simp only [List.headD_cons, List.tail_cons, lss_i]
  by_cases hip : i < p
  · have hia : i < D.acts.length := by omega
    have ia := idx_rowL acC_len ac0 D.acts .i64 hia
    simp only [hip, decide_true, hcond, lr4 u hle1, ia]
    rw [load_elt u (acC (D.acts.getD i ac0)) 4 rfl]
    simp only
    refine (apply55 _ (by have := hlen i; omega) (srt_foldl hw.ss _) (D.acts.getD i ac0) u).mono ?_
    rintro _ t ⟨rfl, rfl⟩
    simp only [inc_i hip (show p ≤ 9223372036854775807 by have := hw.k; omega)]
    refine hK1 (i + 1) _ _ ?_ ⟨hip, rfl⟩ (by show p - (i + 1) < p - i; omega)
    rw [take_succ' ac0 D.acts hia, List.foldl_append]
    rfl
  simp only [hip, decide_false, hcond]
  obtain rfl : i = p := by omega
  clear hK1
  have hll := hlen i
  have hidx : ∀ x ∈ (D.acts.take i).foldl applyA D.safe, x.2 < D.files.length := mem_foldl (hc.val.take i) hw.ns
  have hcrash : D.crash picks = ⟨D.room, crashF D.files ((D.acts.take i).foldl applyA D.safe) picks.tail, numbered ((D.acts.take i).foldl applyA D.safe) 0, numbered ((D.acts.take i).foldl applyA D.safe) 0, [], false, 0, false, 0⟩ := by
    unfold DK.crash
    rw [hpe, Int.toNat_natCast]
  generalize (D.acts.take i).foldl applyA D.safe = l at *
  have ln : ∀ u, vLenT (Try.prog.underlying 65) u (rowL nmC 2 l) = some (.lit (.int .i64 ((l.length : Nat) : Int))) := fun u => rfl
  have i1 := fun i (hi : i < l.length) => idx_rowL nmC_len nm0 l .i64 hi
  have i2 := fun i (hi : i < D.files.length) => idx_rowL filC_len fl0 D.files .i64 hi
  have hkk := hw.k
  refine HLoop.ghost (σ := Nat × Nat) (fun x => [.lit (.int .i64 (x.1 : Int)), .lit (.int .i64 (x.2 : Int))]) (fun x t => Mk s t c D l picks x.1 x.2) (fun x => l.length - x.2) (1, 0) rfl ⟨Nat.zero_le _, ⟨Nat.le_refl _, Nat.le_refl _⟩, hle1, nilV, nilV, [], hc1, rfl, Acc.nil _ _ _, Acc.nil _ _ _, by rintro ⟨⟩, by rintro ⟨⟩, by rintro j ⟨⟩, by simp, List.Pairwise.nil, by
    rw [List.drop_zero, List.drop_one]; rfl⟩ ?_
  rintro ⟨k, j⟩ t K2 hM hK2
  simp only at hM hK2
  obtain ⟨m1, ⟨m2, m3⟩, m4, A, N, Bs, q1, q2, q3, q4, q5, q6, q7, q8, q9, q10⟩ := hM
  simp only [List.headD_cons, List.tail_cons, ln, lss_i]
  by_cases hj : j < l.length
  rotate_left
  · -- the end
    simp only [hj, decide_false]
    obtain rfl : j = l.length := by omega
    clear hK2
    simp only [hvNil, hvFld, show vLoad t (.ptr c 2) 1 false = some N from ld_at q1 2]
    have oN := (show hcells N = some [N] ∧ hone N = true from ⟨q4.hc, q4.one⟩)
    refine store1 q1 (by simp [cC]) oN.1 oN.2 rfl ?_
    rw [show (cC D.room A N nilV).set 3 N = cC D.room A N N from rfl]
    rw [List.take_length] at q4
    rw [List.drop_length] at q10
    have hq10 : crashF D.files l picks.tail = Bs.map (·.2) := by rw [q10]; exact List.append_nil _
    have hcA : ∀ k ob, accId A = some k → t k = some ob → (t.set c (.cells (cC D.room A N N))) k = some ob := fun k ob hk ho => by rw [set_ne _ _ (fun e => q5 (by rw [← e]; exact hk))]; exact ho
    have hup := crashUp (s := s) (t := t.set c (.cells (cC D.room A N N))) (c := c) (A := A) (N := N) (room := D.room) (Bs := Bs) (ns := numbered l 0) (fs := crashF D.files l picks.tail) hcn (set_at _ _ _) (le_set_free _ m4 hcn) (by rw [q2]; exact q3.put _ q5) (by rw [numbered_len]; exact q4.put _ q6) (by rw [q2, numbered_len]) q5 q6 q7 (fun x hx => by
      rcases q8 x hx with h | ⟨p, f, k1, k2, k3, k4, k5, k6⟩
      · exact .inl h
      · exact .inr ⟨p, f, k1, k2, by rw [set_ne _ _ k4]; exact k3, k4, k5, k6⟩) q9 hq10
    refine ⟨_, _, hup, c, hcn, rfl, ?_⟩
    rw [hcrash]
    rfl
  -- a round
  have hx := hidx _ (getD_memD nm0 hj)
  have htk := take_succ' nm0 l hj
  have hdr : l.drop j = l.getD j nm0 :: l.drop (j + 1) := by rw [getD_get nm0 l hj, List.getElem_cons_drop]
  have i1j := i1 j hj
  generalize l.getD j nm0 = x at *
  obtain ⟨f1, f2, f3⟩ := hw.at_ hx
  have i2x := i2 x.2 hx
  rw [hdr, crashF_cons] at q10
  generalize D.files.getD x.2 fl0 = f at *
  simp only [hj, decide_true, lr1 t m4, i1j, fldE, load_elt1, nmC, List.getElem?_cons_succ, List.getElem?_cons_zero, i2x]
  rw [load_elt t (filC f) 2 rfl]
  simp only
  intro q hq
  have hqle := le_set_new (.cells [.lit (.slice none 0 0), .lit (.int .i64 0)]) (le_refl' t) hq
  refine ⟨load_elt _ (filC f) 2 rfl, by trivial, lr1 _ (HS.le.trans m4 hqle), ?_⟩
  refine store2 (cs := [.lit (.slice none 0 0), .lit (.int .i64 0)]) (vs := filC f) (set_at _ _ _) rfl (filC_ones _) ?_
  rw [set_set]
  have hqle := le_set_new (.cells (filC f)) (le_refl' t) hq
  have hqq : (t.set q (.cells (filC f))) q = some (.cells (filC f)) := set_at _ _ _
  generalize t.set q (.cells (filC f)) = u1 at *
  have lq0 : ∀ u, HS.le u1 u → vLoad u (.ptr q 0) 1 false = some (byV f.b) := fun u hu => ld_at (hu _ _ hqq) 0
  have lq1 : vLoad u1 (.ptr q 1) 1 false = some (.lit (.int .i64 f.safe)) := ld_at hqq 1
  have lb : ∀ u (b : List Int), vLenT (Try.prog.underlying 22) u (byV b) = some (.lit (.int .i64 ((b.length : Nat) : Int))) := fun u b => rfl
  have lc : ∀ u, HS.le u1 u → ∀ k, vLoad u (.ptr c k) 1 false = (cC D.room A N nilV)[k]? := fun u hu k => ld_at (hu _ _ (hqle _ _ q1)) k
  have lc1 : ∀ u, HS.le u1 u → vLoad u (.ptr c 1) 1 false = some A := fun u hu => lc u hu 1
  simp only [hvFld, lq1]
  refine Join.of (fun xs v => v = u1 ∧ ∃ (k' n : Nat), xs = [.lit (.int .i64 (k' : Int)), .lit (.int .i64 (n : Int))] ∧ n ≤ f.b.length ∧ k ≤ k' ∧ k' ≤ k + 1 ∧ crashF D.files l picks.tail = (Bs.map (·.2) ++ [⟨f.b.take n, (n : Int)⟩]) ++ crashF D.files (l.drop (j + 1)) (picks.drop k')) ?_ ?_
  rotate_left
  · intro K47 hK47
    simp only [lq0 u1 (le_refl' _), lb, lss_n]
    by_cases hs : f.safe < (f.b.length : Int)
    · rw [if_pos hs] at q10
      simp only [hs, decide_true]
      rw [sub_n (by omega) (by omega)]
      simp only
      rw [add_n (by omega) (by omega)]
      simp only
      refine (round54 picks k (n := (f.b.length : Int) - f.safe + 1) (by omega) u1).mono ?_
      rintro _ v ⟨rfl, rfl⟩
      rw [Int.add_sub_cancel]
      obtain ⟨g1, g2⟩ := part_bd (picks.drop k) (n := (f.b.length : Int) - f.safe) (by omega)
      rw [add_n (by omega) (by omega)]
      simp only [inc_i (show k < k + 1 by omega) (show k + 1 ≤ 9223372036854775807 by omega)]
      obtain ⟨n, hn⟩ : ∃ n : Nat, f.safe + part (picks.drop k) (f.b.length - f.safe) = (n : Int) := ⟨(f.safe + part (picks.drop k) (f.b.length - f.safe)).toNat, by omega⟩
      rw [hn]
      refine hK47 _ _ ⟨rfl, k + 1, n, rfl, by omega, by omega, by omega, ?_⟩
      rw [hn, Int.toNat_natCast, List.tail_drop] at q10
      rw [q10, List.append_assoc]
      rfl
    · rw [if_neg hs] at q10
      simp only [hs, decide_false]
      obtain ⟨n, hn⟩ : ∃ n : Nat, f.safe = (n : Int) := ⟨f.safe.toNat, by omega⟩
      rw [hn]
      refine hK47 _ _ ⟨rfl, k, n, rfl, by omega, by omega, by omega, ?_⟩
      rw [hn, Int.toNat_natCast] at q10
      rw [q10, List.append_assoc]
      rfl
  rintro _ v ⟨rfl, k', n, rfl, hn, hk1, hk2, hfin⟩
  simp only [List.headD_cons, List.tail_cons, hvNil, hvFld, lc1 v (le_refl' _), lq0 v (le_refl' _), slice_by _ hn]
  refine hBS0 fun Y hY => ?_
  have hleY := le_set_new (.cells ([] : List HV)) (le_refl' v) hY
  refine ⟨lq0 _ hleY, lc1 _ hleY, ?_⟩
  have htl : (f.b.take n).length ≤ 1000000 := by rw [List.length_take]; omega
  refine app_empty (b := v) hleY hY (set_at _ _ _) (show lcells _ 1 (byV _) = some (bl (f.b.take n)) by simp [lcells, byV]) (k := (f.b.take n).length) rfl (by rw [bl_len, Nat.mul_one]) ⟨by omega, by omega⟩ fun B w g1 g2 => ?_
  refine ⟨by rw [lc1 _ g2, lc1 _ hleY], ?_⟩
  have hBv : (B = nilV ∧ f.b.take n = []) ∨ ∃ p ff, B = .view p 0 1 (f.b.take n).length ff ∧ v p = none ∧ w p = some (.cells (bl (f.b.take n))) := by
    rcases g1 with (⟨e1, -, e2⟩ | ⟨p, ff, k1, k2, k3, -, -⟩) | ⟨e1, e2, p, k1, k2, k3⟩
    · exact .inl ⟨e1, List.length_eq_zero_iff.1 e2⟩
    · exact .inr ⟨p, ff, k2, k1, k3⟩
    · refine .inr ⟨p, true, by rw [e1]; exact k2, k1, ?_⟩
      rw [List.length_eq_zero_iff.1 e1]; exact k3
  have hmk : vMk [(0, 1), (1, 1)] [.lit (.slice none 0 0), .lit (.int .i64 0)] [(0, B), (1, .lit (.int .i64 (n : Int)))] = some (.agg (ownC (B, ⟨f.b.take n, (n : Int)⟩))) := by
    rcases hBv with ⟨rfl, -⟩ | ⟨p, ff, rfl, -⟩ <;> rfl
  simp only [hmk]
  -- what was there is there
  have hle3 := HS.le.trans hqle g2
  have hA3 : Acc s w 2 A j (rows ownC Bs) := q3.keep fun p ob _ hob => hle3 _ _ hob
  have hN3 : Acc s w 2 N j (rows nmC (numbered (l.take j) 0)) := q4.keep fun p ob _ hob => hle3 _ _ hob
  have hc3 : w c = some (.cells (cC D.room A N nilV)) := hle3 _ _ q1
  have hs3 := HS.le.trans m4 hle3
  have hB3 : ∀ x ∈ Bs, BV s w c A N x := fun x hx => by
    rcases q8 x hx with h | ⟨p, f, k1, k2, k3, k4, k5, k6⟩
    · exact .inl h
    · exact .inr ⟨p, f, k1, k2, hle3 _ _ k3, k4, k5, k6⟩
  have hBn : BV s w c A N (B, ⟨f.b.take n, (n : Int)⟩) := by
    rcases hBv with h | ⟨p, ff, k1, k2, k3⟩
    · exact .inl h
    · have hvt : t p = none := none_of_le hqle k2
      refine .inr ⟨p, ff, k1, none_of_le m4 hvt, k3, (fun e => by rw [e, q1] at hvt; cases hvt), fun e => ?_, fun e => ?_⟩
      · have := (q3.free e).2; rw [hvt] at this; cases this
      · have := (q4.free e).2; rw [hvt] at this; cases this
  have hpn : ∀ x ∈ Bs, ∀ p, accId x.1 = some p → accId B ≠ some p := fun x hx p hp e => by
    rcases q8 x hx with ⟨h, -⟩ | ⟨p', f', k1, k2, k3, -⟩
    · rw [h] at hp; cases hp
    · rw [k1] at hp
      cases hp
      rcases hBv with ⟨h, -⟩ | ⟨p2, ff, z1, z2, -⟩
      · rw [h] at e; cases e
      · rw [z1] at e
        cases e
        have := hqle _ _ k3
        rw [z2] at this
        cases this
  have hB4 : ∀ x ∈ Bs ++ [(B, ⟨f.b.take n, (n : Int)⟩)], BV s w c A N x := fun x hx => by
    rcases List.mem_append.1 hx with hx | hx
    · exact hB3 x hx
    · rw [List.mem_singleton.1 hx]; exact hBn
  have hP4 : (Bs ++ [(B, (⟨f.b.take n, (n : Int)⟩ : Fl))]).Pairwise (fun x y => ∀ p, accId x.1 = some p → accId y.1 ≠ some p) := List.pairwise_append.2 ⟨q9, List.pairwise_singleton _ _, fun x hx y hy => by
    rw [List.mem_singleton.1 hy]; exact hpn x hx⟩
  have hrm : room (j + 1) 32 := ⟨by omega, by omega⟩
  have hrm2 : room (j + 1) 24 := ⟨by omega, by omega⟩
  refine hA3.app1W (W := fun s75 => vLoad s75 (.ptr c 1) 1 false = vLoad w (.ptr c 1) 1 false) hs3 (vs := ownC (B, ⟨f.b.take n, (n : Int)⟩)) rfl rfl rfl hrm (fun id hid => ?_) ?_
  · rw [ld_at hc3, ld_at (show (w.set id _) c = _ from by rw [set_ne _ _ (fun e => by rw [← e, hc3] at hid; cases hid)]; exact hc3)]
  intro A' t2 a1 a2 a3
  have oc := a3 c _ q5 hc3
  refine store1 oc.1 (by simp [cC]) a1.hc a1.one rfl ?_
  rw [show (cC D.room A N nilV).set 1 A' = cC D.room A' N nilV from rfl]
  have hc5 : (t2.set c (.cells (cC D.room A' N nilV))) c = some (.cells (cC D.room A' N nilV)) := set_at _ _ _
  have hA5 : Acc s (t2.set c (.cells (cC D.room A' N nilV))) 2 A' (j + 1) (rows ownC Bs ++ ownC (B, ⟨f.b.take n, (n : Int)⟩)) := a1.put _ oc.2
  have hN4 : Acc s t2 2 N j (rows nmC (numbered (l.take j) 0)) := hN3.keep fun p ob hp hob => (a3 p ob (fun e => q7 p e hp) hob).1
  have hN5 : Acc s (t2.set c (.cells (cC D.room A' N nilV))) 2 N j (rows nmC (numbered (l.take j) 0)) := hN4.put _ q6
  have hs5 : HS.le s (t2.set c (.cells (cC D.room A' N nilV))) := le_set_free _ a2 hcn
  have hAN5 : ∀ p, accId A' = some p → accId N ≠ some p := fun p hp hp2 => by
    obtain ⟨-, f2⟩ := hN3.free hp2
    exact (a3 p _ (fun e => q7 p e hp2) f2).2 hp
  have hB5 : ∀ x ∈ Bs ++ [(B, (⟨f.b.take n, (n : Int)⟩ : Fl))], BV s (t2.set c (.cells (cC D.room A' N nilV))) c A' N x := fun x hx => by
    rcases hB4 x hx with h | ⟨p, f, k1, k2, k3, k4, k5, k6⟩
    · exact .inl h
    · obtain ⟨z1, z2⟩ := a3 p _ k5 k3
      exact .inr ⟨p, f, k1, k2, by rw [set_ne _ _ k4]; exact z1, k4, z2, k6⟩
  have hA'c := oc.2
  clear a1 a2 a3 oc hN4
  generalize t2.set c (.cells (cC D.room A' N nilV)) = t3 at *
  have l2 : vLoad t3 (.ptr c 2) 1 false = some N := ld_at hc5 2
  have l1' : vLoad t3 (.ptr c 1) 1 false = some A' := ld_at hc5 1
  have lA : vLenT (Try.prog.underlying 64) t3 A' = some (.lit (.int .i64 ((j + 1 : Nat) : Int))) := hA5.len _ _
  simp only [l2, l1', i1j, fldE, load_elt1, nmC, List.getElem?_cons_zero, lA]
  rw [sub_n (by omega) (by omega), show ((j + 1 : Nat) : Int) - 1 = (j : Int) from by omega]
  simp only
  rw [show vMk [(0, 1), (1, 1)] [.lit (.string .empty), .lit (.int .i64 0)] [(0, strV x.1), (1, .lit (.int .i64 (j : Int)))] = some (.agg (nmC (x.1, j))) from rfl]
  simp only
  refine hN5.app1W (W := fun s94 => vLoad s94 (.ptr c 2) 1 false = some N) hs5 (vs := nmC (x.1, j)) rfl rfl rfl hrm2 (fun id hid => ?_) ?_
  · rw [ld_at (show (t3.set id _) c = _ from by rw [set_ne _ _ (fun e => by rw [← e, hc5] at hid; cases hid)]; exact hc5)]
    rfl
  intro N' t4 b1' b2' b3'
  have oc := b3' c _ q6 hc5
  refine store1 oc.1 (by simp [cC]) b1'.hc b1'.one rfl ?_
  rw [show (cC D.room A' N nilV).set 2 N' = cC D.room A' N' nilV from rfl]
  simp only [inc_i hj (show l.length ≤ 9223372036854775807 by omega)]
  have hA6 : Acc s t4 2 A' (j + 1) (rows ownC Bs ++ ownC (B, ⟨f.b.take n, (n : Int)⟩)) := hA5.keep fun p ob hp hob => (b3' p ob (hAN5 p hp) hob).1
  refine hK2 (k', j + 1) _ _ rfl ⟨hj, ⟨by show 1 ≤ k'; omega, by show k' ≤ j + 1 + 1; omega⟩, le_set_free _ b2' hcn, A', N', Bs ++ [(B, ⟨f.b.take n, (n : Int)⟩)], set_at _ _ _, by rw [List.length_append, q2]; rfl, ?_, ?_, hA'c, oc.2, fun p hp hp2 => ?_, fun y hy => ?_, hP4, ?_⟩ (by show l.length - (j + 1) < l.length - j; omega)
  · rw [rows_app, rows_one]
    exact hA6.put _ hA'c
  · rw [htk, numbered_app, rows_app, rows_one, List.length_take, Nat.min_eq_left m1, Nat.zero_add]
    exact b1'.put _ oc.2
  · obtain ⟨-, f2⟩ := hA5.free hp
    exact (b3' p _ (hAN5 p hp) f2).2 hp2
  · rcases hB5 y hy with h | ⟨p, f, k1, k2, k3, k4, k5, k6⟩
    · exact .inl h
    · obtain ⟨z1, z2⟩ := b3' p _ k6 k3
      exact .inr ⟨p, f, k1, k2, by rw [set_ne _ _ k4]; exact z1, k4, k5, z2⟩
  · rw [List.map_append]
    exact hfin
end
end Go.Proofs.Ythfoanmokcepcaa.DS
end
section
namespace Go.Proofs.Ythfoanmokcepcaa.DS
open Go.Proofs.Ythfoanmokcepcaa.H Go.Proofs.Ythfoanmokcepcaa.AS Go.Proofs.Ythfoanmokcepcaa.X0
set_option linter.unusedVariables false
set_option linter.unusedSimpArgs false
set_option maxRecDepth 100000
theorem Lf.crash (D : DK) (picks : List Int) : Lf (D.crash picks) := by
  unfold Lf DK.crash
  intro h
  cases h
section
variable {s H : HS} {d r K : Nat} {D E : DK}
theorem Two.le {h : HS} (hr : h r = none) (hl : HS.le (h.set r (.cells (rC E))) s) : HS.le h s := fun k o hk => hl _ _ (by rw [set_ne _ _ (fun e => by rw [e, hr] at hk; cases hk)]; exact hk)
/-- Both disks behind a crash. -/
theorem both_crash (h2 : Two H d D r D) (hl : HS.le H s) (hw : Wf K D) (hc : Ch D) (hK : 2 * K ≤ 1000000) (picks : List Int) {k : HV → HS → HV → Prop} {Q : HV → HV → HS → Prop}
    (hQ : ∀ c c2 t G, Two G c (D.crash picks) c2 (D.crash picks) → HS.le G t → HS.le H t → (∀ k ob, H k = some ob → G k = none) → Q (.ptr c 0) (.ptr c2 0) t) :
    HC Try.prog 16 [.ptr d 0, rowL intC 1 picks] s (fun r45 s46 => HC Try.prog 33 [.ptr r 0, rowL intC 1 picks] s46 (fun r47 s48 => Q r45 r47 s48)) := by
  obtain ⟨h, hP, hr, rfl⟩ := h2
  have hls := Two.le hr hl
  refine (crash16 hP hls hw hc (.inl rfl)).mono ?_
  rintro _ t ⟨c, g, rfl, hPg, hgt, hst, hap⟩
  have hrt : t r = some (.cells (rC D)) := hst _ _ (hl _ _ (set_at _ _ _))
  refine (crash33 hrt hw hc picks hK).mono ?_
  rintro _ t2 ⟨c2, hc2, rfl, rfl⟩
  have hgc : g c2 = none := none_of_le hgt hc2
  refine hQ c c2 _ _ ⟨g, hPg, hgc, rfl⟩ (le_set hgt _ _) (HS.le.trans (HS.le.trans hl hst) (le_set_new _ (le_refl' t) hc2)) fun k ob hk => ?_
  have h1 := hap k ob (hl _ _ hk)
  have h2 : k ≠ c2 := fun e => by
    have := hst _ _ (hl _ _ hk)
    rw [e, hc2] at this
    cases this
  rw [set_ne _ _ h2]
  exact h1
theorem both_show (h2 : Two H d D r D) (hl : HS.le H s) (hw : Wf K D) (hn : D.now.length ≤ 1000) : HC Try.prog 30 [.ptr d 0, .ptr r 0] s (fun v t => v = .lit (.bool true) ∧ HS.le s t) := by
  obtain ⟨h, hP, hr, rfl⟩ := h2
  exact shows30 hP (Two.le hr hl) (hl _ _ (set_at _ _ _)) hw hn
end
theorem crash_law (room : Int) (l : List ST) (picks : List Int) (more : List ST) (again : List Int) (hz : OkS l) (hz2 : OkS more) (s : HS) : HC Try.prog 9 [.lit (.int .i64 room), rowL stC 5 l, rowL intC 1 picks, rowL stC 5 more, rowL intC 1 again] s (fun v t => v = .lit (.bool true)) := by
  refine HC9 ?_
  unfold c9
  have ln : ∀ (l : List ST) u, vLenT (Try.prog.underlying 48) u (rowL stC 5 l) = some (.lit (.int .i64 ((l.length : Nat) : Int))) := fun l u => rfl
  have lp : ∀ (l : List Int) u, vLenT (Try.prog.underlying 24) u (rowL intC 1 l) = some (.lit (.int .i64 ((l.length : Nat) : Int))) := fun l u => rfl
  have i1 := fun i (hi : i < l.length) => idx_rowL stC_len sd0 l .i64 hi
  have i2 := fun i (hi : i < more.length) => idx_rowL stC_len sd0 more .i64 hi
  refine Join.of (fun xs t => t = s ∧ ∃ r : Bool, xs = [.lit (.bool r)] ∧ (r = false → (l.length ≤ 80 ∧ (l.map fun y : ST => (y.b.length : Int)).sum ≤ 1000) ∧ (more.length ≤ 80 ∧ (more.map fun y : ST => (y.b.length : Int)).sum ≤ 1000) ∧ 0 ≤ room ∧ room ≤ 1099511627776)) ?_ ?_
  rotate_left
  · intro K1 hK1
    refine (small26 l hz s).mono ?_
    rintro _ t ⟨rfl, r, rfl, hr⟩
    cases r with
    | false =>
      simp only [vUn, Bool.not_false, bindO, hcond]
      exact hK1 _ _ ⟨rfl, true, rfl, fun h => by cases h⟩
    | true =>
      simp only [vUn, Bool.not_true, bindO, hcond]
      refine (small26 more hz2 t).mono ?_
      rintro _ t2 ⟨rfl, r2, rfl, hr2⟩
      cases r2 with
      | false =>
        simp only [Bool.not_false]
        exact hK1 _ _ ⟨rfl, true, rfl, fun h => by cases h⟩
      | true =>
        simp only [Bool.not_true, lp, gtr_n, lss_n]
        by_cases c1 : (60 : Int) < (picks.length : Int)
        · simp only [c1, decide_true]
          exact hK1 _ _ ⟨rfl, true, rfl, fun h => by cases h⟩
        simp only [c1, decide_false]
        by_cases c2 : (60 : Int) < (again.length : Int)
        · simp only [c2, decide_true]
          exact hK1 _ _ ⟨rfl, true, rfl, fun h => by cases h⟩
        simp only [c2, decide_false]
        by_cases c3 : room < 0
        · simp only [c3, decide_true]
          exact hK1 _ _ ⟨rfl, true, rfl, fun h => by cases h⟩
        simp only [c3, decide_false]
        exact hK1 _ _ ⟨rfl, _, rfl, fun h => ⟨hr rfl, hr2 rfl, by omega, by have := of_decide_eq_false h; omega⟩⟩
  rintro _ t ⟨rfl, r, rfl, hr⟩
  simp only [List.headD_cons]
  cases r with
  | true =>
    simp only [hcond]
    exact awake11 t
  | false =>
  obtain ⟨⟨hl80, hsum⟩, ⟨hm80, hsum2⟩, hrm⟩ := hr rfl
  clear hr
  have hbl := sumB_le hsum
  have hbm := sumB_le hsum2
  simp only [hcond]
  refine (new12 t).mono ?_
  intro v s1 hv
  rw [if_pos hrm] at hv
  obtain ⟨d, h0, rfl, hP0, hl0, hle0, -⟩ := hv
  simp only [vExtract, List.getElem?_cons_succ, List.getElem?_cons_zero, bindO]
  refine (new28 room s1).mono ?_
  intro v s2 hv
  rw [if_pos hrm] at hv
  obtain ⟨r, hr, rfl, rfl⟩ := hv
  simp only [vExtract, List.getElem?_cons_succ, List.getElem?_cons_zero]
  have hh0 : h0 r = none := none_of_le hl0 hr
  have w0 := wf_new hrm
  have k0 := ch_new room
  refine Join.of (fun xs u => u = s1.set r (.cells (rC (DK.new room))) ∧ xs = [.lit (.bool false)]) ?_ ?_
  rotate_left
  · intro K26 hK26
    simp only [neq28, decide_true, Bool.not_true, hcond, eqp27]
    rw [show vCmp (Try.prog.underlying 51) .eql (.ptr r 0) (.lit (.pointer none)) = some (.lit (.bool false)) from rfl]
    exact hK26 _ _ ⟨rfl, rfl⟩
  rintro _ u ⟨rfl, rfl⟩
  simp only [List.headD_cons]
  refine HLoop.ghost (σ := Nat) (fun i => [.lit (.int .i64 (i : Int))]) (fun i u => i ≤ l.length ∧ ∃ H D, Two H d D r D ∧ HS.le H u ∧ Nb i D ∧ Wf (1000 + 1003 * i) D ∧ Ch D ∧ Lf D) (fun i => l.length - i) 0 rfl ⟨Nat.zero_le _, _, DK.new room, ⟨h0, hP0, hh0, rfl⟩, le_set hl0 _ _, nb_new room, w0.mono (by omega) (by omega), k0, fun h => by cases h⟩ ?_
  rintro i u K ⟨h1, H, D, h2, h5, h6, h7, h8, h10⟩ hK
  simp only [List.headD_cons, ln, lss_i]
  by_cases hlt : i < l.length
  · have hx := getD_memD sd0 hlt
    have hxb := hbl _ hx
    obtain ⟨-, -, -, hn1, hn2⟩ := hz.st _ hx
    simp only [hlt, decide_true, i1 i hlt]
    generalize l.getD i sd0 = x at *
    rw [load_elt u (stC x) 5 rfl]
    simp only
    refine (does29 h2 h5 h7 h8 h7 h10 x (by omega) ⟨hn1, hn2⟩ (by omega)).mono ?_
    rintro _ w ⟨rfl, H', hT', hTn⟩
    simp only [vExtract, List.getElem?_cons_succ, List.getElem?_cons_zero, neq3, decide_true, Bool.not_true, inc_i hlt (show l.length ≤ 9223372036854775807 by omega)]
    exact hK (i + 1) _ _ rfl ⟨hlt, H', _, hT', hTn.1, h6.step x, (h7.step x hn2 (by omega)).mono (by omega) (by omega), h8.step x, h10.step x⟩ (by show l.length - (i + 1) < l.length - i; omega)
  obtain rfl : i = l.length := by omega
  simp only [hlt, decide_false]
  clear hK
  refine both_crash (k := fun _ _ _ => True) h2 h5 h7 h8 (by omega) picks ?_
  intro c c2 t G g1 g2 g3 g4
  have wc := h7.crash h8 picks (by omega)
  have nc := h6.crash picks
  have cc := Ch.crash D picks
  have fc := Lf.crash D picks
  generalize D.crash picks = D1 at *
  refine Join.of (fun xs u => HS.le t u ∧ xs = [.lit (.bool false)]) ?_ ?_
  rotate_left
  · intro K49 hK49
    refine (both_show g1 g2 wc (by have := nc.nw; omega)).mono ?_
    rintro _ u1 ⟨rfl, hu1⟩
    simp only [vUn, Bool.not_true]
    refine (both_show h2 (HS.le.trans g3 hu1) h7 (by have := h6.nw; omega)).mono ?_
    rintro _ u2 ⟨rfl, hu2⟩
    simp only [Bool.not_true]
    exact hK49 _ _ ⟨HS.le.trans hu1 hu2, rfl⟩
  rintro _ u3 ⟨hle3, rfl⟩
  simp only [List.headD_cons]
  refine HLoop.ghost (σ := Nat) (fun i => [.lit (.int .i64 (i : Int))]) (fun i u => i ≤ more.length ∧ ∃ G D1, Two G c D1 c2 D1 ∧ HS.le G u ∧ Nb (160 + i) D1 ∧ Wf (2 * (1000 + 1003 * l.length) + 1003 * i) D1 ∧ Ch D1 ∧ Lf D1) (fun i => more.length - i) 0 rfl ⟨Nat.zero_le _, G, D1, g1, HS.le.trans g2 hle3, nc.mono (by omega), wc.mono (by omega) (by omega), cc, fc⟩ ?_
  clear g1 g2 g3 g4 wc nc cc fc
  rintro j u4 K2 ⟨q1, G2, D2, p2, p5, p6, p7, p8, p10⟩ hK2
  simp only [List.headD_cons, ln, lss_i]
  by_cases hlt2 : j < more.length
  · have hx := getD_memD sd0 hlt2
    have hxb := hbm _ hx
    obtain ⟨-, -, -, hn1, hn2⟩ := hz2.st _ hx
    simp only [hlt2, decide_true, i2 j hlt2]
    generalize more.getD j sd0 = x at *
    rw [load_elt u4 (stC x) 5 rfl]
    simp only
    refine (does29 p2 p5 p7 p8 p7 p10 x (by omega) ⟨hn1, hn2⟩ (by omega)).mono ?_
    rintro _ w ⟨rfl, H', hT', hTn⟩
    simp only [vExtract, List.getElem?_cons_succ, List.getElem?_cons_zero, neq3, decide_true, Bool.not_true, inc_i hlt2 (show more.length ≤ 9223372036854775807 by omega)]
    exact hK2 (j + 1) _ _ rfl ⟨hlt2, H', _, hT', hTn.1, p6.step x, (p7.step x hn2 (by omega)).mono (by omega) (by omega), p8.step x, p10.step x⟩ (by show more.length - (j + 1) < more.length - j; omega)
  obtain rfl : j = more.length := by omega
  simp only [hlt2, decide_false]
  clear hK2
  refine both_crash (k := fun _ _ _ => True) p2 p5 p7 p8 (by omega) again ?_
  intro e e2 t5 G5 g1 g2 g3 g4
  have wc := p7.crash p8 again (by omega)
  have nc := p6.crash again
  refine (both_show g1 g2 wc (by have := nc.nw; omega)).mono ?_
  rintro _ u6 ⟨rfl, hu6⟩
  simp only
  refine (both_show p2 (HS.le.trans g3 hu6) p7 (by have := p6.nw; omega)).mono ?_
  rintro _ u7 ⟨rfl, hu7⟩
  simp only
  exact awake11 _
end Go.Proofs.Ythfoanmokcepcaa.DS
end
section
set_option linter.unusedVariables false
set_option linter.unusedSimpArgs false
namespace Go.Proofs.YthfoanmokcepcaaW.PrintWords
open Go.RowKit
/-- The world is the old one, some orders having been drawn. -/
structure Drawn0 (w w' : World) : Prop where mk :: (out : ∃ n, w' = w.drewN n)
theorem Drawn0.refl (w : World) : Drawn0 w w := ⟨⟨0, rfl⟩⟩
theorem Drawn0.step {w w' : World} (h : Drawn0 w w') (n : Nat) : Drawn0 w (w'.drewN n) := by
  obtain ⟨m, rfl⟩ := h
  exact ⟨⟨m + n, World.drewN_drewN ..⟩⟩
theorem Drawn0.grown {w w' : World} (h : Drawn0 w w') : Grown w w' := by
  obtain ⟨n, rfl⟩ := h
  induction n with
  | zero => exact Grown.refl _
  | succ n ih => rw [← World.drew_drewN]; exact Grown.drew ih
theorem Drawn0.below {w w' : World} (h : Drawn0 w w') : Below w.heap.size w w' := by
  obtain ⟨n, rfl⟩ := h
  induction n with
  | zero => exact Below.refl _ _
  | succ n ih => rw [← World.drew_drewN]; exact ih.drew
def rd (xs : List Int) (i : Int) : Int := xs.getD i.toNat 0
theorem below_alloc {w W : World} (h : Below w.heap.size w W) (o : Obj) : Below w.heap.size w (W.alloc o) := h.alloc h.size o
theorem grown_of_below {w w1 : World} (h : Below w.heap.size w w1) (row : Option Nat) : w.grownBy w1 row := ⟨h.os, h.tape, h.output, h.size, fun i hi _ => h.block i hi⟩
theorem pw_cell_below {w w1 : World} (h : Below w.heap.size w w1) {a : Addr} {v : Value} (hc : w.cell? a = some v) : w1.cell? a = some v := (h.cell (World.block_lt_of_cell? w a hc)).trans hc
def ReadsInt (w : World) (k : IntKind) (A : Option Addr) (n : Nat) (xs : List Int) : Prop :=
  xs.length = n ∧ n ≤ 9223372036854775807 ∧ (0 < n → ∃ ad, A = some ad ∧ ∀ j, j < n → w.cell? (ad.add j) = some (.int k (xs.getD j 0)))
theorem ReadsInt.at_ {w : World} {k : IntKind} {A : Option Addr} {n : Nat} {xs : List Int} (h : ReadsInt w k A n xs) (i : Int) (h0 : 0 ≤ i) (h1 : i < n) : ∃ ad, A = some ad ∧ w.cell? (ad.add i.toNat) = some (.int k (rd xs i)) := by
  obtain ⟨ad, e, hc⟩ := h.2.2 (by omega)
  exact ⟨ad, e, hc _ (by omega)⟩
theorem ReadsInt.below {w w1 : World} {k : IntKind} {A : Option Addr} {n : Nat} {xs : List Int} (h : ReadsInt w k A n xs) (hb : Below w.heap.size w w1) : ReadsInt w1 k A n xs :=
  ⟨h.1, h.2.1, fun hn => by
    obtain ⟨ad, e, hc⟩ := h.2.2 hn
    exact ⟨ad, e, fun j hj => pw_cell_below hb (hc j hj)⟩⟩
theorem own_nil (W : World) (base : Nat) (e : TypeId) (size : Nat) : W.ownsRow base e size (.slice none 0 0) 0 [] := ⟨by simp, .inl ⟨rfl, rfl⟩⟩
theorem own_base {w : World} {base : Nat} {e : TypeId} {size n : Nat} {v : Value} {xs : List Value} (h : w.ownsRow base e size v n xs) (k : Nat) (hk : v.ownBlock = some k) : base ≤ k := by
  rcases h.2 with ⟨rfl, _⟩ | ⟨g, cap, cur, rfl, hb, _⟩
  · simp [Value.ownBlock] at hk
  · have : g = k := by simpa [Value.ownBlock] using hk
    omega
theorem own_lt {w : World} {base : Nat} {e : TypeId} {size n : Nat} {v : Value} {xs : List Value} (h : w.ownsRow base e size v n xs) (k : Nat) (hk : v.ownBlock = some k) : k < w.heap.size := by
  rcases h.2 with ⟨rfl, _⟩ | ⟨g, cap, cur, rfl, hb, hh, _⟩
  · simp [Value.ownBlock] at hk
  · have : g = k := by simpa [Value.ownBlock] using hk
    subst this
    exact (Array.getElem?_eq_some_iff.1 hh).1
theorem pw_own_below {w w1 : World} {base : Nat} {e : TypeId} {size n : Nat} {v : Value} {xs : List Value} (h : w.ownsRow base e size v n xs) (hb : Below w.heap.size w w1) : w1.ownsRow base e size v n xs :=
  h.kept (grown_of_below hb none) (by cases v.ownBlock <;> simp)
/-- What is written is another row: this one lives on. -/
theorem own_other {w w1 : World} {base : Nat} {e : TypeId} {size n : Nat} {v : Value} {xs : List Value} (h : w.ownsRow base e size v n xs) {row : Option Nat} (hg : w.grownBy w1 row) (hne : v.ownBlock = none ∨ v.ownBlock ≠ row) : w1.ownsRow base e size v n xs := h.kept hg hne
section
variable {P : Program} {ops : Array Oper} {rest : List Oper} {o : Oper} {a : Act} {Q : Exit → Act → World → Prop}
end
section
variable {P : Program}
end
section
variable {P : Program} {ops : Array Oper} {rest : List Oper} {o : Oper} {a : Act} {Q : Exit → Act → World → Prop}
end
def bytesOf (s : ByteArray) : List Int := s.data.toList.map fun b => (b.toNat : Int)
/-- Where the first answers, the second answers the same. -/
def LeO {α : Type} (a b : Option α) : Prop := ∀ r, a = some r → b = some r
theorem LeO.refl {α : Type} (a : Option α) : LeO a a := fun _ h => h
theorem LeO.none {α : Type} (b : Option α) : LeO Option.none b := fun _ h => by cases h
theorem LeO.trans {α : Type} {a b c : Option α} (h : LeO a b) (k : LeO b c) : LeO a c := fun r hr => k r (h r hr)
theorem LeO.bind {α β : Type} {a a' : Option α} {f f' : α → Option β} (h : LeO a a') (k : ∀ x, LeO (f x) (f' x)) : LeO (a.bind f) (a'.bind f') := by
  intro r hr
  obtain ⟨x, hx, hf⟩ := Option.bind_eq_some_iff.1 hr
  exact Option.bind_eq_some_iff.2 ⟨x, h x hx, k x r hf⟩
theorem LeO.map {α β : Type} {a a' : Option α} (f : α → β) (h : LeO a a') : LeO (a.map f) (a'.map f) := by
  intro r hr
  obtain ⟨x, hx, hf⟩ := Option.map_eq_some_iff.1 hr
  exact Option.map_eq_some_iff.2 ⟨x, h x hx, hf⟩
theorem more_rounds {α : Type} {g : Nat → Option α} (h : ∀ k, LeO (g k) (g (k + 1))) (k : Nat) : ∀ j, LeO (g k) (g (k + j))
  | 0 => LeO.refl _
  | j + 1 => (more_rounds h k j).trans (h (k + j))
theorem at_rounds {α : Type} {g : Nat → Option α} (h : ∀ k, LeO (g k) (g (k + 1))) {k k' : Nat} (hk : k ≤ k') {r : α} (hr : g k = some r) : g k' = some r := by
  have := more_rounds h k (k' - k) r hr
  rwa [Nat.add_sub_cancel' hk] at this
def Reps {α : Type} (R : α → List Value → Prop) (size : Nat) (ps : List α) (cs : List Value) : Prop :=
  cs.length = ps.length * size ∧ ∀ j p, ps[j]? = some p → R p ((cs.drop (j * size)).take size)
theorem Reps.none {α : Type} (R : α → List Value → Prop) (size : Nat) : Reps R size [] [] := ⟨by simp, fun j p h => by simp at h⟩
theorem Reps.snoc {α : Type} {R : α → List Value → Prop} {size : Nat} {ps : List α} {cs c : List Value} {p : α} (h : Reps R size ps cs) (hp : R p c) (hc : c.length = size) : Reps R size (ps ++ [p]) (cs ++ c) := by
  refine ⟨by rw [List.length_append, h.1, hc, List.length_append, List.length_singleton, Nat.add_mul, Nat.one_mul], fun j q hq => ?_⟩
  rcases Nat.lt_or_ge j ps.length with hj | hj
  · rw [List.getElem?_append_left hj] at hq
    have h1 : j * size + size ≤ cs.length := by rw [h.1, ← Nat.succ_mul]; exact Nat.mul_le_mul_right _ hj
    have h2 := h.2 j q hq
    rw [List.drop_append_of_le_length (by omega), List.take_append_of_le_length (by rw [List.length_drop]; omega)]
    exact h2
  · have hj' : j = ps.length := by
      have := (List.getElem?_eq_some_iff.1 hq).1
      rw [List.length_append, List.length_singleton] at this
      omega
    subst hj'
    have hq' : p = q := by simpa using hq
    subst hq'
    rw [← h.1, List.drop_left, ← hc, List.take_length]
    exact hp
theorem Reps.imp_ {α : Type} {R R' : α → List Value → Prop} {size : Nat} {ps : List α} {cs : List Value} (h : Reps R size ps cs) (hR : ∀ p c, R p c → R' p c) : Reps R' size ps cs := ⟨h.1, fun j p hj => hR _ _ (h.2 j p hj)⟩
def ReadsRow {α : Type} (R : α → List Value → Prop) (size : Nat) (w : World) (A : Option Addr) (n : Nat) (ps : List α) : Prop :=
  ps.length = n ∧ n ≤ 9223372036854775807 ∧ (0 < n → ∃ ad, A = some ad ∧ ∀ j p, ps[j]? = some p → ∃ c, c.length = size ∧ R p c ∧ ∀ i u, c[i]? = some u → w.cell? (ad.add (j * size + i)) = some u)
theorem ReadsRow.imp_ {α : Type} {R R' : α → List Value → Prop} {size : Nat} {w w1 : World} {A : Option Addr} {n : Nat} {ps : List α} (h : ReadsRow R size w A n ps) (hb : Below w.heap.size w w1) (hR : ∀ p c, R p c → R' p c) : ReadsRow R' size w1 A n ps :=
  ⟨h.1, h.2.1, fun hn => by
    obtain ⟨ad, e, hc⟩ := h.2.2 hn
    refine ⟨ad, e, fun j p hj => ?_⟩
    obtain ⟨c, hs, hr, hcell⟩ := hc j p hj
    exact ⟨c, hs, hR _ _ hr, fun i u hu => pw_cell_below hb (hcell i u hu)⟩⟩
theorem own_reads_row {α : Type} {R : α → List Value → Prop} {w : World} {base n size : Nat} {e : TypeId} {v : Value} {ps : List α} {cs : List Value} (h : w.ownsRow base e size v n cs) (hR : Reps R size ps cs) (hn : ps.length = n) :
    ∃ A c, v = .slice A n c ∧ ReadsRow R size w A n ps := by
  rcases Nat.eq_zero_or_pos n with h0 | h0
  · rcases h.2 with ⟨rfl, rfl⟩ | ⟨g, cap, cur, rfl, _⟩
    · exact ⟨none, 0, rfl, hn, by omega, fun hp => absurd hp (by omega)⟩
    · exact ⟨_, cap, rfl, hn, by omega, fun hp => absurd hp (by omega)⟩
  · obtain ⟨g, cap, rfl, _, _⟩ := h.form h0
    have hm : n ≤ 9223372036854775807 := by
      rcases h.2 with ⟨_, h1⟩ | ⟨g', cap', cur, he, _, _, h1, h2, _⟩
      · omega
      · simp only [maxLen] at h2
        omega
    refine ⟨_, cap, rfl, hn, hm, fun _ => ⟨_, rfl, fun j p hj => ⟨(cs.drop (j * size)).take size, ?_, hR.2 j p hj, fun i u hu => ?_⟩⟩⟩
    · have hjl := (List.getElem?_eq_some_iff.1 hj).1
      have h1 : j * size + size ≤ cs.length := by rw [hR.1, ← Nat.succ_mul]; exact Nat.mul_le_mul_right _ hjl
      rw [List.length_take, List.length_drop]
      omega
    · refine h.cells (g := g) rfl _ u ?_
      rw [List.getElem?_take] at hu
      split at hu
      · rw [List.getElem?_drop] at hu
        exact hu
      · cases hu
section
variable {P : Program} {ops : Array Oper} {rest : List Oper} {o : Oper} {a : Act} {Q : Exit → Act → World → Prop}
/-- append(v, x), x of several cells; behind 'at_builtin'; the goal's world is 'W.alloc' of the variadic's box. -/
theorem print_append_cells {w0 W : World} (base : Nat) (hgd : o.guard = none) (s x : Operand) (t e : TypeId) (z : Value) (size bytes : Nat)
    (ho : o.op = .call { callee := .builtin .append, args := #[s, x], argTypes := #[t, t] })
    (ht : P.underlying t = some (.slice e)) (hinfo : (P.info? e).map (fun i => (i.zero, i.size, i.bytes)) = some (some z, size, bytes)) (hz : z.cells.size = size) (hs0 : 0 < size) (hb0 : 0 < bytes)
    (v : Value) (n : Nat) (xs ys : List Value) (hs : a.eval s = v) (hx : a.eval x = .slice (some ⟨W.heap.size, 0, none⟩) 1 1) (hys : ys.length = size) (h1 : ∀ u ∈ ys, u.oneCell' = true)
    (HO : W.ownsRow base e size v n xs) (HB : Below base w0 W) (hbase : base ≤ W.heap.size) (hl : (n + 1) * bytes ≤ 140737488355328)
    (h : ∀ v1 w1, w1.ownsRow base e size v1 (n + 1) (xs ++ ys) → Below base w0 w1 → W.grownBy w1 v.ownBlock → (v1.ownBlock = v.ownBlock ∨ ∃ b, v1.ownBlock = some b ∧ W.heap.size ≤ b) → wpList P ops Q rest (a.put o.dst v1) w1) :
    wpList P ops Q (o :: rest) a (W.alloc (.cells ys.toArray e)) := by
  obtain ⟨i0, hi, hzz⟩ := Option.map_eq_some_iff.1 hinfo
  simp only [Prod.mk.injEq] at hzz
  obtain ⟨hz0, hz1, hz2⟩ := hzz
  have hlen : n + 1 ≤ 140737488355328 := Nat.le_trans (Nat.le_mul_of_pos_right _ hb0) hl
  refine wpList_append_own_at (W.alloc (.cells ys.toArray e)) hgd s x t ho base e i0 z size bytes ht hi hz0 hz1 hz2 hz hs0 v n xs hs (HO.alloc _) ⟨W.heap.size, 0, none⟩ 1 1 ys hx (by rw [hys]; simp)
    (by simpa using World.news_of_block (cs := ys.toArray) (t := e) (fr := (0, 0)) (heap_alloc_new W (.cells ys.toArray e))) h1 (by simp only [maxLen]; omega) hl (by simp; omega) ?_
  intro v1 w1 hown hg _ hat
  refine h v1 w1 hown ((HB.alloc hbase _).grown hg (by simp; omega) (own_base HO)) (World.grownBy.trans (World.grownBy_alloc W _ _) hg) ?_
  rcases hat with hat | hat
  · exact .inl hat
  · exact .inr ⟨_, hat, by simp⟩
end
theorem own_ne {w : World} {base : Nat} {e t : TypeId} {size n g : Nat} {v : Value} {xs : List Value} {cs : Array Value} (h : w.ownsRow base e size v n xs) (hg : w.heap[g]? = some (.cells cs t (0, 0))) (hne : e ≠ t) : some g ≠ v.ownBlock := by
  rcases h.2 with ⟨rfl, _⟩ | ⟨g', cap, cur, rfl, _, hh, _⟩
  · simp [Value.ownBlock]
  · intro he
    have : g = g' := by simpa [Value.ownBlock] using he
    subst this
    rw [hg] at hh
    injection hh with hh
    injection hh with _ ht
    exact hne ht.symm
theorem blk_lt {w : World} {g : Nat} {o : Obj} (h : w.heap[g]? = some o) : g < w.heap.size := (Array.getElem?_eq_some_iff.1 h).1
def KeepBut (w w' : World) (g : Nat) (row : Option Nat) : Prop := w.heap.size ≤ w'.heap.size ∧ ∀ i, i < w.heap.size → i ≠ g → some i ≠ row → w'.heap[i]? = w.heap[i]?
theorem KeepBut.refl (w : World) (g : Nat) (row : Option Nat) : KeepBut w w g row := ⟨Nat.le_refl _, fun _ _ _ _ => rfl⟩
theorem KeepBut.of_below {w w1 : World} (h : Below w.heap.size w w1) (g : Nat) (row : Option Nat) : KeepBut w w1 g row := ⟨h.size, fun i hi _ _ => h.block i hi⟩
theorem KeepBut.trans {w w1 w2 : World} {g : Nat} {row row1 : Option Nat} (h : KeepBut w w1 g row) (k : KeepBut w1 w2 g row1) (hr : row1 = row ∨ ∃ b, row1 = some b ∧ w.heap.size ≤ b) : KeepBut w w2 g row :=
  ⟨Nat.le_trans h.1 k.1, fun i hi hg hn => by
    refine (k.2 i (Nat.lt_of_lt_of_le hi h.1) hg ?_).trans (h.2 i hi hg hn)
    rcases hr with rfl | ⟨b, rfl, hb⟩
    · exact hn
    · intro e
      injection e with e
      omega⟩
/-- Another block, another row: they live on. -/
theorem KeepBut.blk {w w1 : World} {g g' : Nat} {row : Option Nat} {o : Obj} (h : KeepBut w w1 g row) (hb : w.heap[g']? = some o) (hg : g' ≠ g) (hr : some g' ≠ row) : w1.heap[g']? = some o := (h.2 g' (blk_lt hb) hg hr).trans hb
theorem KeepBut.own {w w1 : World} {g : Nat} {row : Option Nat} {base : Nat} {e : TypeId} {size n : Nat} {v : Value} {xs : List Value} (h : KeepBut w w1 g row) (ho : w.ownsRow base e size v n xs) (hg : v.ownBlock ≠ some g) (hr : v.ownBlock = none ∨ v.ownBlock ≠ row) : w1.ownsRow base e size v n xs := by
  obtain ⟨h1, h2⟩ := ho
  refine ⟨h1, ?_⟩
  rcases h2 with h2 | ⟨b, cap, cur, rfl, hb, hh, r⟩
  · exact .inl h2
  · refine .inr ⟨b, cap, cur, rfl, hb, h.blk hh ?_ ?_, r⟩
    · intro e
      exact hg (by rw [← e]; rfl)
    · rcases hr with hr | hr
      · simp [Value.ownBlock] at hr
      · exact hr
def Ev {α : Type} (g : Nat → Option α) (r : α) : Prop := ∃ K, ∀ k, K ≤ k → g k = some r
theorem Ev.of {α : Type} {g : Nat → Option α} {r : α} (hg : ∀ k, LeO (g k) (g (k + 1))) {k : Nat} (h : g k = some r) : Ev g r := ⟨k, fun _ hk => at_rounds hg hk h⟩
theorem Ev.now {α : Type} (r : α) : Ev (fun _ => some r) r := ⟨0, fun _ _ => rfl⟩
theorem Ev.bind {α β : Type} {g : Nat → Option α} {f : Nat → α → Option β} {a : α} {r : β} (h : Ev g a) (k : Ev (fun n => f n a) r) : Ev (fun n => (g n).bind (f n)) r := by
  obtain ⟨K, h⟩ := h
  obtain ⟨K', k⟩ := k
  refine ⟨max K K', fun n hn => ?_⟩
  have h1 := h n (by omega)
  have h2 := k n (by omega)
  simp only [h1, Option.bind_some]
  exact h2
/-- One round of a loop. -/
theorem Ev.step {α : Type} {g f : Nat → Option α} {r : α} (h : ∀ k, g (k + 1) = f k) (k : Ev f r) : Ev g r := by
  obtain ⟨K, k⟩ := k
  refine ⟨K + 1, fun n hn => ?_⟩
  obtain ⟨m, rfl⟩ : ∃ m, n = m + 1 := ⟨n - 1, by omega⟩
  rw [h]
  exact k m (by omega)
theorem Ev.congr {α : Type} {g f : Nat → Option α} {r : α} (h : ∀ k, g k = f k) (k : Ev f r) : Ev g r := by
  obtain ⟨K, k⟩ := k
  exact ⟨K, fun n hn => (h n).trans (k n hn)⟩
section
variable {P : Program} {ops : Array Oper} {o : Oper} {a : Act} {Q : Exit → Act → World → Prop} {K : Act → World → Prop}
end
theorem own_weaken {w : World} {base base' : Nat} {e : TypeId} {size n : Nat} {v : Value} {xs : List Value} (h : w.ownsRow base e size v n xs) (hb : base' ≤ base) : w.ownsRow base' e size v n xs := by
  obtain ⟨h1, h2⟩ := h
  refine ⟨h1, ?_⟩
  rcases h2 with h2 | ⟨g, cap, cur, rfl, hg, r⟩
  · exact .inl h2
  · exact .inr ⟨g, cap, cur, rfl, Nat.le_trans hb hg, r⟩
section
variable {α : Type} {enc : α → Value} {d : α}
def rdOf (d : α) (xs : List α) (i : Int) : α := xs.getD i.toNat d
def ReadsOf (enc : α → Value) (d : α) (w : World) (A : Option Addr) (n : Nat) (xs : List α) : Prop :=
  xs.length = n ∧ n ≤ 9223372036854775807 ∧ (0 < n → ∃ ad, A = some ad ∧ ∀ j, j < n → w.cell? (ad.add j) = some (enc (xs.getD j d)))
theorem ReadsOf.at_ {w : World} {A : Option Addr} {n : Nat} {xs : List α} (h : ReadsOf enc d w A n xs) (i : Int) (h0 : 0 ≤ i) (h1 : i < n) : ∃ ad, A = some ad ∧ w.cell? (ad.add i.toNat) = some (enc (rdOf d xs i)) := by
  obtain ⟨ad, e, hc⟩ := h.2.2 (by omega)
  exact ⟨ad, e, hc _ (by omega)⟩
theorem ReadsOf.below {w w1 : World} {A : Option Addr} {n : Nat} {xs : List α} (h : ReadsOf enc d w A n xs) (hb : Below w.heap.size w w1) : ReadsOf enc d w1 A n xs :=
  ⟨h.1, h.2.1, fun hn => by
    obtain ⟨ad, e, hc⟩ := h.2.2 hn
    exact ⟨ad, e, fun j hj => pw_cell_below hb (hc j hj)⟩⟩
end
section
variable {α : Type} {P : Program} {ops : Array Oper} {rest : List Oper} {o : Oper} {a : Act} {Q : Exit → Act → World → Prop}
end
section
variable {P : Program}
end
theorem own_le {w : World} {base n m c size : Nat} {e : TypeId} {A : Option Addr} {xs : List Value} (h : w.ownsRow base e size (.slice A m c) n xs) : m ≤ c := by
  rcases h.2 with ⟨he, _⟩ | ⟨g, cap, cur, he, _, _, hnc, _⟩
  · injection he with _ h2 h3
    omega
  · injection he with _ h2 h3
    omega
def OwnRow {α : Type} (R : α → List Value → Prop) (e : TypeId) (size : Nat) (w : World) (base : Nat) (v : Value) (ps : List α) : Prop :=
  ∃ inner, w.ownsRow base e size v ps.length inner ∧ Reps R size ps inner
section
variable {α : Type} {R R' : α → List Value → Prop} {e : TypeId} {size : Nat} {w w1 : World} {base : Nat} {v : Value} {ps : List α}
theorem OwnRow.none_ (R : α → List Value → Prop) (e : TypeId) (size : Nat) (w : World) (base : Nat) : OwnRow R e size w base (.slice none 0 0) [] := ⟨[], own_nil _ _ _ _, Reps.none _ _⟩
theorem OwnRow.imp_ (h : OwnRow R e size w base v ps) (hR : ∀ p c, R p c → R' p c) : OwnRow R' e size w base v ps := by
  obtain ⟨inner, ho, hr⟩ := h
  exact ⟨inner, ho, hr.imp_ hR⟩
theorem OwnRow.below (h : OwnRow R e size w base v ps) (hb : Below w.heap.size w w1) : OwnRow R e size w1 base v ps := by
  obtain ⟨inner, ho, hr⟩ := h
  exact ⟨inner, pw_own_below ho hb, hr⟩
theorem OwnRow.other (h : OwnRow R e size w base v ps) {row : Option Nat} (hg : w.grownBy w1 row) (hne : v.ownBlock = none ∨ v.ownBlock ≠ row) : OwnRow R e size w1 base v ps := by
  obtain ⟨inner, ho, hr⟩ := h
  exact ⟨inner, own_other ho hg hne, hr⟩
theorem OwnRow.keep (h : OwnRow R e size w base v ps) {g : Nat} {t : TypeId} {cells : Array Value} (hb : w.heap[g]? = some (.cells cells t (0, 0))) (ht : e ≠ t) (hk : KeepBut w w1 g none) : OwnRow R e size w1 base v ps := by
  obtain ⟨inner, ho, hr⟩ := h
  exact ⟨inner, hk.own ho (Ne.symm (own_ne ho hb ht)) (by cases v.ownBlock <;> simp), hr⟩
theorem OwnRow.reads (h : OwnRow R e size w base v ps) : ∃ A c, v = .slice A ps.length c ∧ ps.length ≤ c ∧ ReadsRow R size w A ps.length ps := by
  obtain ⟨inner, ho, hr⟩ := h
  obtain ⟨A, c, rfl, hrow⟩ := own_reads_row ho hr rfl
  exact ⟨A, c, rfl, own_le ho, hrow⟩
/-- A literal: the elements' cells one behind the other. -/
theorem OwnRow.lit (W : World) (base : Nat) {inner : List Value} (hr : Reps R size ps inner) (hb : base ≤ W.heap.size) (hm : ps.length ≤ 9223372036854775807) :
    OwnRow R e size (W.alloc (.cells inner.toArray e)) base (.slice (some ⟨W.heap.size, 0, none⟩) ps.length ps.length) ps := by
  have h := World.ownsRow_lit (base := base) (e := e) (size := size) W inner.toArray ps.length hb (by simpa [maxLen] using hm) (by simpa using hr.1)
  exact ⟨inner, by simpa using h, hr⟩
end
section
variable {P : Program} {ops : Array Oper} {rest : List Oper} {o : Oper} {a : Act} {Q : Exit → Act → World → Prop} {α : Type} {R : α → List Value → Prop}
/-- append(v, x): x's cells are cs. R is that of the world AHEAD; move it over hg ('OwnRow.imp_'). -/
theorem OwnRow.append {w0 W : World} (base : Nat) (hgd : o.guard = none) (s x : Operand) (t e : TypeId) (z : Value) (size bytes : Nat)
    (ho : o.op = .call { callee := .builtin .append, args := #[s, x], argTypes := #[t, t] })
    (ht : P.underlying t = some (.slice e)) (hinfo : (P.info? e).map (fun i => (i.zero, i.size, i.bytes)) = some (some z, size, bytes)) (hz : z.cells.size = size) (hs0 : 0 < size) (hb0 : 0 < bytes)
    (v : Value) (ps : List α) (p : α) (cs : List Value) (hs : a.eval s = v) (hx : a.eval x = .slice (some ⟨W.heap.size, 0, none⟩) 1 1) (hp : R p cs) (hcs : cs.length = size) (h1 : ∀ u ∈ cs, u.oneCell' = true)
    (HO : OwnRow R e size W base v ps) (HB : Below base w0 W) (hbase : base ≤ W.heap.size) (hl : (ps.length + 1) * bytes ≤ 140737488355328)
    (h : ∀ v1 w1, OwnRow R e size w1 base v1 (ps ++ [p]) → Below base w0 w1 → W.grownBy w1 v.ownBlock → (v1.ownBlock = v.ownBlock ∨ ∃ b, v1.ownBlock = some b ∧ W.heap.size ≤ b) → wpList P ops Q rest (a.put o.dst v1) w1) :
    wpList P ops Q (o :: rest) a (W.alloc (.cells cs.toArray e)) := by
  obtain ⟨inner, hown, hr⟩ := HO
  refine print_append_cells base hgd s x t e z size bytes ho ht hinfo hz hs0 hb0 v ps.length inner cs hs hx hcs h1 hown HB hbase hl ?_
  intro v1 w1 hown1 hb1 hg1 hat1
  exact h v1 w1 ⟨inner ++ cs, by rw [List.length_append, List.length_singleton]; exact hown1, hr.snoc hp hcs⟩ hb1 hg1 hat1
end
section
variable {P : Program} {ops : Array Oper} {o : Oper} {a : Act} {Q : Exit → Act → World → Prop} {K : Act → World → Prop} {α : Type} {R : α → List Value → Prop}
end
section
variable {α : Type} {P : Program}
theorem ReadsOf.len_ {enc : α → Value} {d : α} {w : World} {A : Option Addr} {n : Nat} {xs : List α} (h : ReadsOf enc d w A n xs) : ReadsOf enc d w A xs.length xs := by rw [h.1]; exact h
end
section
variable {P : Program} {ops : Array Oper} {rest : List Oper} {o : Oper} {a : Act} {Q : Exit → Act → World → Prop}
end
/-- ok: which blocks the rows inside may be ('not the row that is being written'). -/
structure Kd (α : Type) where
  sz : Nat
  E : List Nat
  K : World → α → List Value → Prop
  M : World → Nat → (Nat → Prop) → α → List Value → Prop
  K_len : ∀ {w x cs}, K w x cs → cs.length = sz
  K_one : ∀ {w x cs}, K w x cs → ∀ u ∈ cs, u.oneCell' = true
  K_below : ∀ {w w1 : World} {x cs}, Below w.heap.size w w1 → K w x cs → K w1 x cs
  K_of_M : ∀ {w base ok x cs}, M w base ok x cs → K w x cs
  M_mono : ∀ {w base ok ok' x cs}, (∀ k, ok k → ok' k) → M w base ok x cs → M w base ok' x cs
  M_bound : ∀ {w : World} {base ok x cs}, M w base ok x cs → M w base (fun k => ok k ∧ base ≤ k ∧ k < w.heap.size ∧ ∃ q, q ∈ E ∧ ∃ cells, w.heap[k]? = some (.cells cells q (0, 0))) x cs
  M_move : ∀ {w w1 : World} {base ok x cs}, (∀ k, ok k → w1.heap[k]? = w.heap[k]?) → M w base ok x cs → M w1 base ok x cs
  M_lower : ∀ {w base base' ok x cs}, base' ≤ base → M w base ok x cs → M w base' ok x cs
theorem own_move {w w1 : World} {base : Nat} {e : TypeId} {size n : Nat} {v : Value} {xs : List Value} (h : w.ownsRow base e size v n xs) (hm : ∀ k, v.ownBlock = some k → w1.heap[k]? = w.heap[k]?) : w1.ownsRow base e size v n xs := by
  obtain ⟨h1, h2⟩ := h
  refine ⟨h1, ?_⟩
  rcases h2 with h2 | ⟨g, cap, cur, rfl, hg, hh, r⟩
  · exact .inl h2
  · exact .inr ⟨g, cap, cur, rfl, hg, (hm g (by simp [Value.ownBlock])).trans hh, r⟩
theorem own_typed {w : World} {base : Nat} {e : TypeId} {size n : Nat} {v : Value} {xs : List Value} (h : w.ownsRow base e size v n xs) (k : Nat) (hk : v.ownBlock = some k) : ∃ cells, w.heap[k]? = some (.cells cells e (0, 0)) := by
  rcases h.2 with ⟨rfl, _⟩ | ⟨g, cap, cur, rfl, hg, hh, r⟩
  · simp [Value.ownBlock] at hk
  · have : g = k := by simpa [Value.ownBlock] using hk
    subst this
    exact ⟨cur, hh⟩
namespace Kd
/-- A row of elements that is read. -/
def C {α : Type} (d : Kd α) (w : World) (A : Option Addr) (n : Nat) (xs : List α) : Prop := ReadsRow (d.K w) d.sz w A n xs
/-- A row of elements (type e) of the call's own; the elements' rows are not this one. -/
def R {α : Type} (d : Kd α) (e : Nat) (w : World) (base : Nat) (ok : Nat → Prop) (v : Value) (xs : List α) : Prop :=
  (∀ k, v.ownBlock = some k → ok k) ∧ OwnRow (d.M w base (fun k => ok k ∧ some k ≠ v.ownBlock)) e d.sz w base v xs
section
variable {α : Type} {d : Kd α} {e : Nat} {w w1 : World} {base : Nat} {ok ok' : Nat → Prop} {v : Value} {xs : List α}
theorem C_below {A : Option Addr} {n : Nat} (h : d.C w A n xs) (hb : Below w.heap.size w w1) : d.C w1 A n xs := ReadsRow.imp_ h hb (fun _ _ hp => d.K_below hb hp)
theorem R_mono (h : d.R e w base ok v xs) (hok : ∀ k, ok k → ok' k) : d.R e w base ok' v xs := ⟨fun k hk => hok k (h.1 k hk), h.2.imp_ (fun _ _ hp => d.M_mono (fun k hk => ⟨hok k hk.1, hk.2⟩) hp)⟩
theorem R_bound (h : d.R e w base ok v xs) : d.R e w base (fun k => ok k ∧ base ≤ k ∧ k < w.heap.size ∧ ∃ q, q ∈ e :: d.E ∧ ∃ cells, w.heap[k]? = some (.cells cells q (0, 0))) v xs := by
  obtain ⟨h0, inner, ho, hr⟩ := h
  refine ⟨fun k hk => ?_, inner, ho, hr.imp_ (fun _ _ hp => d.M_mono (fun k hk => ?_) (d.M_bound hp))⟩
  · obtain ⟨cells, hc⟩ := own_typed ho k hk
    exact ⟨h0 k hk, own_base ho k hk, own_lt ho k hk, e, List.mem_cons_self, cells, hc⟩
  · obtain ⟨⟨h1, h2⟩, h3, h4, q, hq, hc⟩ := hk
    exact ⟨⟨h1, h3, h4, q, List.mem_cons_of_mem _ hq, hc⟩, h2⟩
theorem R_move (h : d.R e w base ok v xs) (hm : ∀ k, ok k → w1.heap[k]? = w.heap[k]?) : d.R e w1 base ok v xs := by
  obtain ⟨h0, inner, ho, hr⟩ := h
  exact ⟨h0, inner, own_move ho (fun k hk => hm k (h0 k hk)), hr.imp_ (fun _ _ hp => d.M_move (fun k hk => hm k hk.1) hp)⟩
theorem R_lower {base' : Nat} (h : d.R e w base ok v xs) (hb : base' ≤ base) : d.R e w base' ok v xs := by
  obtain ⟨h0, inner, ho, hr⟩ := h
  exact ⟨h0, inner, own_weaken ho hb, hr.imp_ (fun _ _ hp => d.M_lower hb hp)⟩
theorem R_reads (h : d.R e w base ok v xs) : ∃ A c, v = .slice A xs.length c ∧ xs.length ≤ c ∧ d.C w A xs.length xs := by
  obtain ⟨A, c, he, hl, hr⟩ := OwnRow.reads h.2
  exact ⟨A, c, he, hl, hr.imp_ (Below.refl _ _) (fun _ _ hp => d.K_of_M hp)⟩
end
def scalar {α : Type} (enc : α → Value) (h1 : ∀ x, (enc x).oneCell' = true) : Kd α where
  sz := 1
  E := []
  K := fun _ x cs => cs = [enc x]
  M := fun _ _ _ x cs => cs = [enc x]
  K_len := fun h => by rw [h]; rfl
  K_one := fun h u hu => by
    rw [h] at hu
    rw [List.mem_singleton.1 hu]
    exact h1 _
  K_below := fun _ h => h
  K_of_M := fun h => h
  M_mono := fun _ h => h
  M_bound := fun h => h
  M_move := fun _ h => h
  M_lower := fun _ h => h
def int (k : IntKind) : Kd Int := scalar (Value.int k) (fun _ => rfl)
def bool : Kd Bool := scalar Value.bool (fun _ => rfl)
def string : Kd ByteArray := scalar Value.string (fun _ => rfl)
def slice {α : Type} (e : Nat) (d : Kd α) : Kd (List α) where
  sz := 1
  E := e :: d.E
  K := fun w xs cs => ∃ A c, cs = [.slice A xs.length c] ∧ xs.length ≤ c ∧ d.C w A xs.length xs
  M := fun w base ok xs cs => ∃ v, cs = [v] ∧ d.R e w base ok v xs
  K_len := by
    rintro w x cs ⟨A, c, rfl, _⟩
    rfl
  K_one := by
    rintro w x cs ⟨A, c, rfl, _⟩ u hu
    rw [List.mem_singleton.1 hu]
    rfl
  K_below := by
    rintro w w1 x cs hb ⟨A, c, rfl, hl, hr⟩
    exact ⟨A, c, rfl, hl, C_below hr hb⟩
  K_of_M := by
    rintro w base ok x cs ⟨v, rfl, h⟩
    obtain ⟨A, c, rfl, hl, hr⟩ := R_reads h
    exact ⟨A, c, rfl, hl, hr⟩
  M_mono := by
    rintro w base ok ok' x cs hok ⟨v, rfl, h⟩
    exact ⟨v, rfl, R_mono h hok⟩
  M_bound := by
    rintro w base ok x cs ⟨v, rfl, h⟩
    exact ⟨v, rfl, R_bound h⟩
  M_move := by
    rintro w w1 base ok x cs hm ⟨v, rfl, h⟩
    exact ⟨v, rfl, R_move h hm⟩
  M_lower := by
    rintro w base base' ok x cs hb ⟨v, rfl, h⟩
    exact ⟨v, rfl, R_lower h hb⟩
/-- Two in line. -/
def pair {α β : Type} (a : Kd α) (b : Kd β) : Kd (α × β) where
  sz := a.sz + b.sz
  E := a.E ++ b.E
  K := fun w x cs => ∃ c0 c1, cs = c0 ++ c1 ∧ a.K w x.1 c0 ∧ b.K w x.2 c1
  M := fun w base ok x cs => ∃ c0 c1, cs = c0 ++ c1 ∧ a.M w base ok x.1 c0 ∧ b.M w base ok x.2 c1
  K_len := by
    rintro w x cs ⟨c0, c1, rfl, h0, h1⟩
    rw [List.length_append, a.K_len h0, b.K_len h1]
  K_one := by
    rintro w x cs ⟨c0, c1, rfl, h0, h1⟩ u hu
    rcases List.mem_append.1 hu with hu | hu
    · exact a.K_one h0 u hu
    · exact b.K_one h1 u hu
  K_below := by
    rintro w w1 x cs hb ⟨c0, c1, rfl, h0, h1⟩
    exact ⟨c0, c1, rfl, a.K_below hb h0, b.K_below hb h1⟩
  K_of_M := by
    rintro w base ok x cs ⟨c0, c1, rfl, h0, h1⟩
    exact ⟨c0, c1, rfl, a.K_of_M h0, b.K_of_M h1⟩
  M_mono := by
    rintro w base ok ok' x cs hok ⟨c0, c1, rfl, h0, h1⟩
    exact ⟨c0, c1, rfl, a.M_mono hok h0, b.M_mono hok h1⟩
  M_bound := by
    rintro w base ok x cs ⟨c0, c1, rfl, h0, h1⟩
    refine ⟨c0, c1, rfl, a.M_mono ?_ (a.M_bound h0), b.M_mono ?_ (b.M_bound h1)⟩
    · rintro k ⟨h2, h3, h4, q, hq, hc⟩
      exact ⟨h2, h3, h4, q, List.mem_append_left _ hq, hc⟩
    · rintro k ⟨h2, h3, h4, q, hq, hc⟩
      exact ⟨h2, h3, h4, q, List.mem_append_right _ hq, hc⟩
  M_move := by
    rintro w w1 base ok x cs hm ⟨c0, c1, rfl, h0, h1⟩
    exact ⟨c0, c1, rfl, a.M_move hm h0, b.M_move hm h1⟩
  M_lower := by
    rintro w base base' ok x cs hb ⟨c0, c1, rfl, h0, h1⟩
    exact ⟨c0, c1, rfl, a.M_lower hb h0, b.M_lower hb h1⟩
/-- A Lean structure by its fields. -/
def iso {α β : Type} (d : Kd α) (f : β → α) : Kd β where
  sz := d.sz
  E := d.E
  K := fun w x cs => d.K w (f x) cs
  M := fun w base ok x cs => d.M w base ok (f x) cs
  K_len := d.K_len
  K_one := d.K_one
  K_below := d.K_below
  K_of_M := d.K_of_M
  M_mono := d.M_mono
  M_bound := d.M_bound
  M_move := d.M_move
  M_lower := d.M_lower
/-- Nothing is of this kind: where the nesting's depth is used up. -/
def bot {α : Type} (sz : Nat) (E : List Nat) : Kd α where
  sz := sz
  E := E
  K := fun _ _ _ => False
  M := fun _ _ _ _ _ => False
  K_len := fun h => h.elim
  K_one := fun h => h.elim
  K_below := fun _ h => h
  K_of_M := fun h => h
  M_mono := fun _ h => h
  M_bound := fun h => h
  M_move := fun _ h => h
  M_lower := fun _ h => h
/-- A type nested in itself: nested at most n deep .. -/
def upto {α : Type} (F : Kd α → Kd α) (sz : Nat) (E : List Nat) : Nat → Kd α
  | 0 => bot sz E
  | n + 1 => F (upto F sz E n)
/-- .. for some n. -/
def fix {α : Type} (F : Kd α → Kd α) (sz : Nat) (E : List Nat) (hs : ∀ n, (upto F sz E n).sz = sz) (hE : ∀ n q, q ∈ (upto F sz E n).E → q ∈ E) : Kd α where
  sz := sz
  E := E
  K := fun w x cs => ∃ n, (upto F sz E n).K w x cs
  M := fun w base ok x cs => ∃ n, (upto F sz E n).M w base ok x cs
  K_len := by
    rintro w x cs ⟨n, h⟩
    rw [(upto F sz E n).K_len h, hs n]
  K_one := by
    rintro w x cs ⟨n, h⟩
    exact (upto F sz E n).K_one h
  K_below := by
    rintro w w1 x cs hb ⟨n, h⟩
    exact ⟨n, (upto F sz E n).K_below hb h⟩
  K_of_M := by
    rintro w base ok x cs ⟨n, h⟩
    exact ⟨n, (upto F sz E n).K_of_M h⟩
  M_mono := by
    rintro w base ok ok' x cs hok ⟨n, h⟩
    exact ⟨n, (upto F sz E n).M_mono hok h⟩
  M_bound := by
    rintro w base ok x cs ⟨n, h⟩
    refine ⟨n, (upto F sz E n).M_mono ?_ ((upto F sz E n).M_bound h)⟩
    rintro k ⟨h2, h3, h4, q, hq, hc⟩
    exact ⟨h2, h3, h4, q, hE n q hq, hc⟩
  M_move := by
    rintro w w1 base ok x cs hm ⟨n, h⟩
    exact ⟨n, (upto F sz E n).M_move hm h⟩
  M_lower := by
    rintro w base base' ok x cs hb ⟨n, h⟩
    exact ⟨n, (upto F sz E n).M_lower hb h⟩
section
variable {P : Program} {ops : Array Oper} {rest : List Oper} {o : Oper} {a : Act} {Q : Exit → Act → World → Prop} {α : Type}
end
section
variable {P : Program} {ops : Array Oper} {o : Oper} {a : Act} {Q : Exit → Act → World → Prop} {Kc : Act → World → Prop} {α : Type}
end
end Kd
namespace Kd
/-- F says the more, the more its argument says. -/
structure Mono {α β : Type} (F : Kd α → Kd β) : Prop where
  sz : ∀ d d' : Kd α, d.sz = d'.sz → (F d).sz = (F d').sz
  K : ∀ d d' : Kd α, d.sz = d'.sz → (∀ w x cs, d.K w x cs → d'.K w x cs) → ∀ w x cs, (F d).K w x cs → (F d').K w x cs
  M : ∀ d d' : Kd α, d.sz = d'.sz → (∀ w base ok x cs, d.M w base ok x cs → d'.M w base ok x cs) → ∀ w base ok x cs, (F d).M w base ok x cs → (F d').M w base ok x cs
section
variable {α : Type} {F : Kd α → Kd α} {sz : Nat} {E : List Nat} {hs : ∀ n, (upto F sz E n).sz = sz} {hE : ∀ n q, q ∈ (upto F sz E n).E → q ∈ E}
end
end Kd
namespace Kd
end Kd
namespace Kd
section
variable {α β : Type} {d : Kd α} {d' : Kd β} {e e' : Nat} {w w1 W : World} {base b b' : Nat} {ok ok' okv oku : Nat → Prop} {v u : Value} {xs : List α} {ys : List β}
theorem C_nil (d : Kd α) (w : World) : d.C w none ([] : List α).length [] := ⟨rfl, by simp, fun h => absurd h (Nat.lt_irrefl 0)⟩
end
section
variable {w W : World} {A : Option Addr} {n : Nat}
variable {α : Type} {enc : α → Value} {h1 : ∀ x, (enc x).oneCell' = true} {e base g cap : Nat} {ok : Nat → Prop} {xs : List α}
end
section
variable {P : Program} {ops : Array Oper} {rest : List Oper} {o : Oper} {a : Act} {Q : Exit → Act → World → Prop}
variable {α : Type}
end
end Kd
section
variable {P : Program}
end
/-- A row of one's own that may begin inside its block. -/
def QRow (w : World) (base : Nat) (e : TypeId) (size : Nat) (v : Value) (n : Nat) (xs : List Value) : Prop :=
  xs.length = n * size ∧
  ((n = 0 ∧ ∃ A, v = .slice A 0 0 ∧ ∀ a, A = some a → base ≤ a.block ∧ ∃ cur, w.heap[a.block]? = some (.cells cur e (0, 0))) ∨
   ∃ g off cap cur, v = .slice (some ⟨g, off * size, none⟩) n cap ∧ base ≤ g ∧ w.heap[g]? = some (.cells cur e (0, 0)) ∧ n ≤ cap ∧ off + cap ≤ maxLen ∧ cur.size = (off + cap) * size ∧ (cur.toList.drop (off * size)).take (n * size) = xs)
section
variable {w w1 : World} {base n size : Nat} {e : TypeId} {v : Value} {xs : List Value}
end
section
variable {P : Program}
end
namespace Kd
def Q {α : Type} (d : Kd α) (e : Nat) (w : World) (base : Nat) (ok : Nat → Prop) (v : Value) (xs : List α) : Prop :=
  (∀ k, v.ownBlock = some k → ok k) ∧ ∃ inner, QRow w base e d.sz v xs.length inner ∧ Reps (d.M w base (fun k => ok k ∧ some k ≠ v.ownBlock)) d.sz xs inner
section
variable {α : Type} {d : Kd α} {e : Nat} {w w1 W : World} {base : Nat} {ok ok' : Nat → Prop} {v : Value} {xs : List α}
end
section
variable {P : Program} {ops : Array Oper} {rest : List Oper} {o : Oper} {a : Act} {Q' : Exit → Act → World → Prop} {Kc : Act → World → Prop} {α : Type}
end
end Kd
namespace Kd
section
variable {α : Type} {d : Kd α} {e e' : Nat} {w w1 W : World} {base : Nat} {ok : Nat → Prop} {u v : Value} {xs : List α}
end
end Kd
namespace Kd
section
variable {α : Type} {d : Kd α} {e base g n cap : Nat} {ok okp : Nat → Prop} {W : World} {xs : List α}
end
end Kd
namespace Kd
section
variable {α : Type} {F : Kd α → Kd α} {sz : Nat} {E : List Nat} {hs : ∀ n, (upto F sz E n).sz = sz} {hE : ∀ n q, q ∈ (upto F sz E n).E → q ∈ E}
end
end Kd
namespace Kd
section
variable {P : Program} {ops : Array Oper} {rest : List Oper} {o : Oper} {a : Act} {Q : Exit → Act → World → Prop} {α : Type}
end
end Kd
namespace Kd
section
variable {P : Program} {ops : Array Oper} {rest : List Oper} {o : Oper} {a : Act} {Q : Exit → Act → World → Prop} {α : Type}
end
end Kd
namespace Kd
section
variable {α : Type} {k : Kd α} {w : World} {A : Option Addr} {xs : List α} {m c : Nat}
end
end Kd
section
variable {P : Program}
end
theorem ReadsInt.nil (W : World) (k : IntKind) : ReadsInt W k none ([] : List Int).length [] := ⟨rfl, by simp, fun h => absurd h (Nat.lt_irrefl 0)⟩
theorem ReadsInt.drewN {W : World} {k : IntKind} {A : Option Addr} {n : Nat} {xs : List Int} (h : ReadsInt W k A n xs) (m : Nat) : ReadsInt (W.drewN m) k A n xs := h
theorem keep_cell {w W : World} {g : Nat} (h : KeepBut w W g none) {a : Addr} {v : Value} (hc : w.cell? a = some v) (hne : a.block ≠ g) : W.cell? a = some v := by
  have := h.2 a.block (World.block_lt_of_cell? w a hc) hne (by simp)
  simpa [World.cell?, this] using hc
theorem add_block (a : Addr) (i : Nat) : (a.add i).block = a.block := by unfold Addr.add; split <;> rfl
theorem ReadsOf.nil {α : Type} (enc : α → Value) (d : α) (W : World) : ReadsOf enc d W none ([] : List α).length [] := ⟨rfl, by simp, fun h => absurd h (Nat.lt_irrefl 0)⟩
theorem ReadsOf.drewN {α : Type} {enc : α → Value} {d : α} {W : World} {A : Option Addr} {n : Nat} {xs : List α} (h : ReadsOf enc d W A n xs) (m : Nat) : ReadsOf enc d (W.drewN m) A n xs := h
theorem ReadsInt.keep {w W : World} {k : IntKind} {A : Option Addr} {n g : Nat} {xs : List Int} (h : ReadsInt w k A n xs) (hk : KeepBut w W g none) (hf : ∀ ad, A = some ad → 0 < n → ad.block ≠ g) : ReadsInt W k A n xs :=
  ⟨h.1, h.2.1, fun hn => by
    obtain ⟨ad, e, hc⟩ := h.2.2 hn
    exact ⟨ad, e, fun j hj => keep_cell hk (hc j hj) (by rw [add_block]; exact hf ad e hn)⟩⟩
theorem ReadsOf.keep {α : Type} {enc : α → Value} {d : α} {w W : World} {A : Option Addr} {n g : Nat} {xs : List α} (h : ReadsOf enc d w A n xs) (hk : KeepBut w W g none) (hf : ∀ ad, A = some ad → 0 < n → ad.block ≠ g) : ReadsOf enc d W A n xs :=
  ⟨h.1, h.2.1, fun hn => by
    obtain ⟨ad, e, hc⟩ := h.2.2 hn
    exact ⟨ad, e, fun j hj => keep_cell hk (hc j hj) (by rw [add_block]; exact hf ad e hn)⟩⟩
namespace Kd
section
variable {α β : Type} {d : Kd α} {d' : Kd β} {e e' base base' n : Nat} {ok ok' : Nat → Prop} {w W w1 W1 : World} {v u : Value} {xs : List α} {ys : List β} {A : Option Addr} {c : Nat}
end
section
variable {α : Type} {enc : α → Value} {h1 : ∀ x, (enc x).oneCell' = true} {w W : World} {A : Option Addr} {n g : Nat} {xs : List α}
end
end Kd
namespace Kd
section
variable {α : Type} {d : Kd α} {e base g : Nat} {ok : Nat → Prop} {w w1 : World} {v : Value} {xs : List α} {o : Obj}
end
end Kd
section
variable {P : Program} {ops : Array Oper} {rest : List Oper} {o : Oper} {a : Act} {Q : Exit → Act → World → Prop}
end
namespace Kd
section
variable {α : Type} {enc : α → Value} {h1 : ∀ x, (enc x).oneCell' = true} {e base g n cap : Nat} {ok : Nat → Prop} {W : World} {xs : List α}
end
end Kd
section
variable {P : Program} {ops : Array Oper} {rest : List Oper} {o : Oper} {a : Act} {Q : Exit → Act → World → Prop}
end
namespace Kd
section
variable {α : Type} {enc : α → Value} {h1 : ∀ x, (enc x).oneCell' = true} {e base g n cap : Nat} {ok : Nat → Prop} {W : World} {xs : List α}
end
end Kd
section
variable {P : Program} {ops : Array Oper} {rest : List Oper} {o : Oper} {a : Act} {Q : Exit → Act → World → Prop} {W : World}
end
section
variable {P : Program} {ops : Array Oper} {o : Oper} {a : Act} {Q : Exit → Act → World → Prop} {Kc : Act → World → Prop}
namespace Kd
variable {α : Type}
end Kd
end
inductive Vals (P : Program) (tmps : Array Value) (w : World) : List ResultVar → List Value → Prop where
  | nil : Vals P tmps w [] []
  | tmp {u : Tmp} {rs : List ResultVar} {vs : List Value} (h : Vals P tmps w rs vs) : Vals P tmps w (.tmp u :: rs) (tmps.getD u undef :: vs)
  | cell {p : Tmp} {ty : TypeId} {rs : List ResultVar} {vs : List Value} (g : Nat) (t : TypeId) (cs : Array Value) (fr : Nat × Nat) (d : TypeDesc)
      (hp : tmps.getD p undef = .pointer (some ⟨g, 0, none⟩)) (hg : w.heap[g]? = some (.cells cs t fr))
      (hu : P.underlying ty = some d) (hd : (match d with | .struct _ | .array _ _ => true | _ => false) = true) (hi : (P.info? ty).map (·.size) = some cs.size)
      (h : Vals P tmps w rs vs) : Vals P tmps w (.cell p ty :: rs) (.agg cs :: vs)
section
variable {P : Program} {tmps : Array Value} {w : World}
end
namespace Kd
section
variable {P : Program} {α : Type}
end
section
variable {P : Program} {ops : Array Oper} {rest : List Oper} {o : Oper} {a : Act} {Q : Exit → Act → World → Prop} {Kc : Act → World → Prop} {α : Type}
end
end Kd
end Go.Proofs.YthfoanmokcepcaaW.PrintWords
end
section
namespace Go.Proofs.Ythfoanmokcepcaa.H
open Go.RowKit Go.MapKept Go.Proofs.YthfoanmokcepcaaW.PrintWords
set_option linter.unusedVariables false
set_option linter.unusedSimpArgs false
variable {P : Program}
def m0 (w : World) : M :=
  { w0 := w, fix := ⟨fun k => k < w.heap.size, fun k => k < w.heap.size, fun _ h => h⟩, com := fun b o => match w.cell? ⟨b, o, none⟩ with | some v => if v.oneCell' then some v else none | none => none, loc := fun _ => none, res := fun _ => false }
theorem m0_com {w : World} {b o : Nat} {v : Value} : (m0 w).com b o = some v ↔ w.cell? ⟨b, o, none⟩ = some v ∧ v.oneCell' = true := by
  show (match w.cell? ⟨b, o, none⟩ with | some v => if v.oneCell' then some v else none | none => none) = some v ↔ _
  cases h : w.cell? ⟨b, o, none⟩ with
  | none => simp
  | some u =>
    simp only
    split
    · rename_i h1; simp only [Option.some.injEq]; constructor
      · rintro rfl; exact ⟨rfl, h1⟩
      · exact fun h => h.1
    · rename_i h1; simp only [Option.some.injEq, false_iff, not_and, reduceCtorEq]; rintro rfl; exact h1
def s0 : HS := fun _ => none
theorem rel0 (w : World) : Rel (m0 w) s0 w :=
  ⟨⟨rfl, rfl, rfl, fun k h => ⟨h, rfl⟩⟩, fun b o v h => (m0_com.1 h).1, (fun id ob l h => by cases h), (fun id ob l h => by cases h), (fun id id' ob ob' l l' h => by cases h), 0, fun id _ => ⟨rfl, rfl, rfl⟩⟩
/-- A kind's cells, as H values. -/
structure Br {α : Type} (d : Kd α) (enc : α → List HV) : Prop where
  pos : 0 < d.sz
  len : ∀ x, (enc x).length = d.sz
  rep : ∀ w x cs, d.K w x cs → Reps (m0 w) (enc x) cs
theorem reps1 {m : M} {x : HV} {v : Value} (h : Rep m x v) (ho : hone x = true) : Reps m [x] [v] :=
  ⟨fun z hz => by simp at hz; subst hz; exact ho, rfl, fun j z hj => by cases j with | zero => simp at hj; subst hj; exact h | succ j => simp at hj⟩
theorem Br.int (k : IntKind) : Br (Kd.int k) (fun n => [.lit (.int k n)]) := ⟨Nat.one_pos, fun _ => rfl, fun w x cs h => by rw [show cs = [.int k x] from h]; exact reps1 (.lit _) rfl⟩
theorem Br.bool : Br Kd.bool (fun b => [.lit (.bool b)]) := ⟨Nat.one_pos, fun _ => rfl, fun w x cs h => by rw [show cs = [.bool x] from h]; exact reps1 (.lit _) rfl⟩
theorem Br.string : Br Kd.string (fun b => [.lit (.string b)]) := ⟨Nat.one_pos, fun _ => rfl, fun w x cs h => by rw [show cs = [.string x] from h]; exact reps1 (.lit _) rfl⟩
theorem Br.pair {α β : Type} {a : Kd α} {b : Kd β} {ea : α → List HV} {eb : β → List HV} (ha : Br a ea) (hb : Br b eb) : Br (Kd.pair a b) (fun x => ea x.1 ++ eb x.2) :=
  ⟨Nat.lt_of_lt_of_le ha.pos (Nat.le_add_right _ _), fun x => by rw [List.length_append, ha.len, hb.len]; rfl, fun w x cs h => by
    obtain ⟨c0, c1, rfl, h0, h1⟩ := h
    exact (ha.rep w _ _ h0).append (hb.rep w _ _ h1)⟩
theorem Br.iso {α β : Type} {d : Kd α} {e : α → List HV} (h : Br d e) (f : β → α) : Br (Kd.iso d f) (fun x => e (f x)) := ⟨h.pos, fun x => h.len _, fun w x cs hk => h.rep w _ _ hk⟩
theorem flat_at {α : Type} {enc : α → List HV} {sz : Nat} (hlen : ∀ x, (enc x).length = sz) (hpos : 0 < sz) : ∀ (xs : List α) (j : Nat), (xs.flatMap enc)[j]? = (xs[j / sz]?).bind fun x => (enc x)[j % sz]?
  | [], j => by simp
  | x :: xs, j => by
    rw [List.flatMap_cons]
    by_cases h : j < sz
    · rw [List.getElem?_append_left (by rw [hlen]; exact h), Nat.div_eq_of_lt h, Nat.mod_eq_of_lt h]; simp
    · rw [List.getElem?_append_right (by rw [hlen]; omega), hlen, flat_at hlen hpos xs]
      have h1 : j / sz = (j - sz) / sz + 1 := by rw [Nat.div_eq_sub_div hpos (by omega)]
      have h2 : j % sz = (j - sz) % sz := Nat.mod_eq_sub_mod (by omega)
      rw [h1, h2]; simp
theorem flat_len {α : Type} {enc : α → List HV} {sz : Nat} (hlen : ∀ x, (enc x).length = sz) : ∀ xs : List α, (xs.flatMap enc).length = xs.length * sz
  | [] => by simp
  | x :: xs => by rw [List.flatMap_cons, List.length_append, hlen, flat_len hlen xs, List.length_cons, Nat.add_mul]; omega
theorem Br.row {α : Type} {d : Kd α} {enc : α → List HV} (h : Br d enc) {w : World} {A : Option Addr} {n c : Nat} {xs : List α} (hr : d.C w A n xs) (hc : n ≤ c) : Rep (m0 w) (.list d.sz n (xs.flatMap enc) false) (.slice A n c) := by
  obtain ⟨h1, h2, h3⟩ := hr
  rcases Nat.eq_zero_or_pos n with hn | hn
  · subst hn
    have : xs = [] := List.eq_nil_of_length_eq_zero h1
    subst this
    exact .list0 _ _ _ _ (fun h => by cases h)
  · obtain ⟨ad, rfl, hx⟩ := h3 hn
    have hlenF := flat_len h.len xs
    rw [h1] at hlenF
    -- each cell
    have key : ∀ j, j < n * d.sz → ∃ v y, w.cell? (ad.add j) = some v ∧ v.oneCell' = true ∧ (xs.flatMap enc)[j]? = some y ∧ Rep (m0 w) y v ∧ hone y = true := by
      intro j hj
      have hq : j / d.sz < xs.length := by rw [h1]; exact Nat.div_lt_of_lt_mul (by rw [Nat.mul_comm]; exact hj)
      have hxq : xs[j / d.sz]? = some xs[j / d.sz] := by simp [hq]
      obtain ⟨cs, hl, hk, hcell⟩ := hx _ _ hxq
      have hrp := h.rep w _ _ hk
      have hm : j % d.sz < cs.length := by rw [hl]; exact Nat.mod_lt _ h.pos
      have hcj : cs[j % d.sz]? = some cs[j % d.sz] := by simp [hm]
      have hm2 : j % d.sz < (enc xs[j / d.sz]).length := by rw [h.len]; exact Nat.mod_lt _ h.pos
      have hy : (enc xs[j / d.sz])[j % d.sz]? = some (enc xs[j / d.sz])[j % d.sz] := by simp [hm2]
      refine ⟨cs[j % d.sz], (enc xs[j / d.sz])[j % d.sz], ?_, d.K_one hk _ (List.getElem_mem hm), ?_, ?_, hrp.1 _ (List.getElem_mem hm2)⟩
      · have := hcell _ _ hcj
        rwa [Nat.div_add_mod' j d.sz] at this
      · rw [flat_at h.len h.pos, hxq]; exact hy
      · have := hrp.2.2 _ _ hy
        rwa [show cs.getD (j % d.sz) undef = cs[j % d.sz] from by simp [List.getD, hm]] at this
    have hspot : ad.spot = none := by
      obtain ⟨v, y, hv, -⟩ := key 0 (Nat.mul_pos hn h.pos)
      have e : ad.add 0 = ad := by unfold Addr.add; rfl
      rw [e] at hv
      unfold World.cell? at hv
      split at hv
      · split at hv
        · cases hv
        · rename_i hs; simpa using hs
      · cases hv
    obtain ⟨b, o, sp⟩ := ad
    simp only at hspot; subst hspot
    refine .list d.sz n _ false c b o (fun j => (w.cell? ⟨b, o + j, none⟩).getD undef) hc (fun h => by cases h) hlenF (fun x hx => ?_) (fun j hj => ?_) (fun j x hj => ?_)
    · obtain ⟨j, hj⟩ := List.getElem?_of_mem hx
      have hlt := (List.getElem?_eq_some_iff.1 hj).1
      obtain ⟨v, y, g1, g2, g3, g4, g5⟩ := key j (by omega)
      rw [g3] at hj; cases hj; exact g5
    · obtain ⟨v, y, g1, g2, g3, g4, g5⟩ := key j (by omega)
      rw [add_loc] at g1
      rw [g1]; exact m0_com.2 ⟨g1, g2⟩
    · have hlt := (List.getElem?_eq_some_iff.1 hj).1
      obtain ⟨v, y, g1, g2, g3, g4, g5⟩ := key j (by omega)
      rw [add_loc] at g1
      rw [g1]; rw [g3] at hj; cases hj; exact g4
theorem Br.slice {α : Type} (e : Nat) {d : Kd α} {enc : α → List HV} (h : Br d enc) : Br (Kd.slice e d) (fun xs => [.list d.sz xs.length (xs.flatMap enc) false]) :=
  ⟨Nat.one_pos, fun _ => rfl, fun w xs cs hk => by
    obtain ⟨A, c, rfl, hc, hr⟩ := hk
    exact reps1 (h.row hr hc) rfl⟩
/-- From the H layer to the law. -/
theorem law_of {f : FuncId} {args : List HV} {cargs : Array Value} {w : World} (h : HC P f args s0 fun v _ => v = .lit (.bool true)) (hn : cargs.size = args.length) (ha : ∀ (j : Nat) x, args[j]? = some x → Rep (m0 w) x (cargs.getD j undef)) :
    Calls P f cargs w fun e w' => e = .returned (.bool true) ∧ Below w.heap.size w w' := by
  refine (h (m0 w) w cargs (rel0 w) hn ha).mono ?_
  rintro e w' ⟨cv, v, s', m', rfl, h1, h2, h3, rfl⟩
  cases h3
  refine ⟨rfl, ?_⟩
  have hb := h2.below
  have hf := h1.fix
  have hkey : ∀ k, k < w.heap.size → k < w'.heap.size ∧ w'.heap[k]? = w.heap[k]? := fun k hk => ⟨(hb.block k (hf k hk).1).1, (hb.block k (hf k hk).1).2.trans (hf k hk).2⟩
  refine ⟨hb.os.trans h1.env.1, hb.tape.trans h1.env.2.1, hb.output.trans h1.env.2.2, ?_, fun k hk => (hkey k hk).2⟩
  rcases Nat.eq_zero_or_pos w.heap.size with h0 | h0
  · omega
  · have := (hkey (w.heap.size - 1) (by omega)).1
    omega
end Go.Proofs.Ythfoanmokcepcaa.H
end
section
namespace Go.Proofs.YthfoanmokcepcaaW.PrintLast
section
variable {P : Program} {ops : Array Oper} {Q : Exit → Act → World → Prop} {md : Region.Mode} {S : World → Prop} {ds : List Nat}
def ListedClosed (md : Region.Mode) (ops : Array Oper) (listed : Array Bool) : Prop :=
  ∀ j oj, ops[j]? = some oj → listed.getD j false = true → ∀ e ∈ oj.after, Region.binds md e = true → listed.getD e.on false = true
theorem ListedClosed.set {listed : Array Bool} {i : Nat} (h : ListedClosed md ops listed) (hi : i ∈ Region.ready md ops listed) : ListedClosed md ops (listed.setIfInBounds i true) := by
  obtain ⟨_, oi, hoi, hall⟩ := mem_ready.1 hi
  intro j oj hj hl e he hb
  by_cases hij : i = j
  · subst hij
    have : oj = oi := Option.some.inj (hj.symm.trans hoi)
    subst this
    exact getD_set_true (hall e he hb)
  · rw [getD_set_ne false hij] at hl
    exact getD_set_true (h j oj hj hl e he hb)
/-- Whatever order is picked from here on, AND 'S' HOLDS BEHIND EVERY OPERATION THAT IS CARRIED OUT, those of ds apart. -/
def wpAnyLast (P : Program) (md : Region.Mode) (ops : Array Oper) (Q : Exit → Act → World → Prop) (S : World → Prop) (ds : List Nat) : Nat → Array Bool → Act → World → Prop
  | 0, listed, a, w => Region.ready md ops listed = [] ∧ Q .normal a w
  | fuel + 1, listed, a, w =>
    (Region.ready md ops listed = [] → Q .normal a w) ∧
    ∀ i ∈ Region.ready md ops listed, wpOp P ops Q i (fun a' w' => (i ∉ ds → S w → S w') ∧ wpAnyLast P md ops Q S ds fuel (listed.setIfInBounds i true) a' w') a w
end
section
variable {P : Program} {ops : Array Oper} {Q : Exit → Act → World → Prop} {md : Region.Mode} {S : World → Prop} {ds : List Nat}
def AllReadyL (P : Program) (md : Region.Mode) (ops : Array Oper) (Q : Exit → Act → World → Prop) (S : World → Prop) (ds : List Nat) (fuel : Nat) (listed : Array Bool) (a : Act) (w : World) (rs : List Nat) : Prop :=
  ∀ i ∈ rs, wpOp P ops Q i (fun a' w' => (i ∉ ds → S w → S w') ∧ wpAnyLast P md ops Q S ds fuel (listed.setIfInBounds i true) a' w') a w
theorem AllReadyL.nil {fuel : Nat} {listed : Array Bool} {a : Act} {w : World} : AllReadyL P md ops Q S ds fuel listed a w [] := fun _ h => by cases h
theorem AllReadyL.cons {fuel : Nat} {listed : Array Bool} {a : Act} {w : World} {i : Nat} {o : Oper} {rs : List Nat} (ho : ops[i]? = some o) (hd : i ∉ ds)
    (h : ∀ K' : Act → World → Prop, Shut (∀ a w, S w → (S w → wpAnyLast P md ops Q S ds fuel (listed.setIfInBounds i true) a w) → K' a w) → if Region.wanted o (yielded ops a.tmps) = true then Oper.wp P o a w K' Q else K' (a.put o.dst undef) w)
    (hs : AllReadyL P md ops Q S ds fuel listed a w rs) : AllReadyL P md ops Q S ds fuel listed a w (i :: rs) := fun j hj => by
  rcases List.mem_cons.1 hj with rfl | hj
  · exact wpOp_step ho (fun K' hK => h K' (fun a w hS hW => hK a w ⟨fun _ _ => hS, hW hS⟩))
  · exact hs j hj
end
end Go.Proofs.YthfoanmokcepcaaW.PrintLast
end
section
namespace Go.Proofs.YthfoanmokcepcaaW.PrintLast
end Go.Proofs.YthfoanmokcepcaaW.PrintLast
end
section
namespace Go.Proofs.YthfoanmokcepcaaW.PrintLast
end Go.Proofs.YthfoanmokcepcaaW.PrintLast
end
section
namespace Go.Proofs.YthfoanmokcepcaaW.PrintWords
end Go.Proofs.YthfoanmokcepcaaW.PrintWords
namespace Kd
end Kd
end
section
namespace Go.Proofs.YthfoanmokcepcaaW.PrintWords
open Go.RowKit
namespace Kd
/-- An element with its index: its blocks are those that f gives to it. -/
def tag {α : Type} (f : Nat → Nat) (d : Kd α) : Kd (α × Nat) where
  sz := d.sz
  E := d.E
  K := fun w x cs => d.K w x.1 cs
  M := fun w base ok x cs => d.M w base (fun k => ok k ∧ f k = x.2) x.1 cs
  K_len := fun h => d.K_len h
  K_one := fun h => d.K_one h
  K_below := fun hb h => d.K_below hb h
  K_of_M := fun h => d.K_of_M h
  M_mono := fun hok h => d.M_mono (fun k hk => ⟨hok k hk.1, hk.2⟩) h
  M_bound := fun h => d.M_mono (fun _ hk => ⟨⟨hk.1.1, hk.2⟩, hk.1.2⟩) (d.M_bound h)
  M_move := fun hm h => d.M_move (fun k hk => hm k hk.1) h
  M_lower := fun hb h => d.M_lower hb h
/-- The cells themselves. -/
def raw (sz : Nat) : Kd (List Value) where
  sz := sz
  E := []
  K := fun _ x cs => cs = x ∧ cs.length = sz ∧ ∀ u ∈ cs, u.oneCell' = true
  M := fun _ _ _ x cs => cs = x ∧ cs.length = sz ∧ ∀ u ∈ cs, u.oneCell' = true
  K_len := fun h => h.2.1
  K_one := fun h => h.2.2
  K_below := fun _ h => h
  K_of_M := fun h => h
  M_mono := fun _ h => h
  M_bound := fun h => h
  M_move := fun _ h => h
  M_lower := fun _ h => h
/-- A row of elements (type e) of the call's own, no two of which lead to one block. -/
def S {α : Type} (d : Kd α) (e : Nat) (w : World) (base : Nat) (ok : Nat → Prop) (v : Value) (xs : List α) : Prop := ∃ f, (tag f d).R e w base ok v xs.zipIdx
section
variable {α β : Type} {d : Kd α} {d' : Kd β} {e e' : Nat} {w w1 W : World} {base b : Nat} {ok ok' okv oku : Nat → Prop} {u v : Value} {xs : List α} {ys : List β}
end
section
variable {α β : Type} {d : Kd α} {d' : Kd β} {e e' g : Nat} {w w1 W : World} {base b : Nat} {ok ok' okv oku : Nat → Prop} {u v : Value} {xs : List α} {ys : List β}
end
section
variable {P : Program} {ops : Array Oper} {rest : List Oper} {o : Oper} {a : Act} {Q : Exit → Act → World → Prop} {Kc : Act → World → Prop} {α : Type}
end
/-- Element i is these cells; the others are d's. -/
def gap {α : Type} (f : Nat → Nat) (d : Kd α) (i : Nat) (c : List Value) : Kd (α × Nat) where
  sz := d.sz
  E := d.E
  K := fun w x cs => (x.2 = i → cs = c ∧ cs.length = d.sz ∧ ∀ u ∈ cs, u.oneCell' = true) ∧ (x.2 ≠ i → d.K w x.1 cs)
  M := fun w base ok x cs => (x.2 = i → cs = c ∧ cs.length = d.sz ∧ ∀ u ∈ cs, u.oneCell' = true) ∧ (x.2 ≠ i → d.M w base (fun k => ok k ∧ f k = x.2) x.1 cs)
  K_len := fun {w x cs} h => by
    by_cases hx : x.2 = i
    · exact (h.1 hx).2.1
    · exact d.K_len (h.2 hx)
  K_one := fun {w x cs} h => by
    by_cases hx : x.2 = i
    · exact (h.1 hx).2.2
    · exact d.K_one (h.2 hx)
  K_below := fun hb h => ⟨h.1, fun hx => d.K_below hb (h.2 hx)⟩
  K_of_M := fun h => ⟨h.1, fun hx => d.K_of_M (h.2 hx)⟩
  M_mono := fun hok h => ⟨h.1, fun hx => d.M_mono (fun k hk => ⟨hok k hk.1, hk.2⟩) (h.2 hx)⟩
  M_bound := fun h => ⟨h.1, fun hx => d.M_mono (fun _ hk => ⟨⟨hk.1.1, hk.2⟩, hk.1.2⟩) (d.M_bound (h.2 hx))⟩
  M_move := fun hm h => ⟨h.1, fun hx => d.M_move (fun k hk => hm k hk.1) (h.2 hx)⟩
  M_lower := fun hb h => ⟨h.1, fun hx => d.M_lower hb (h.2 hx)⟩
def H {α : Type} (d : Kd α) (e : Nat) (w : World) (base : Nat) (ok : Nat → Prop) (v : Value) (xs : List α) (i : Int) (oki : Nat → Prop) (c : List Value) : Prop :=
  (∀ k, oki k → ok k) ∧ ∃ f, (gap f d i.toNat c).R e w base (fun k => ok k ∧ ¬ oki k) v xs.zipIdx
section
variable {α β : Type} {d : Kd α} {e e' g n cap : Nat} {w w1 W : World} {base : Nat} {ok ok' oki okp : Nat → Prop} {u v : Value} {xs : List α} {i : Int} {c : List Value}
end
section
variable {P : Program} {ops : Array Oper} {rest : List Oper} {o : Oper} {a : Act} {Q : Exit → Act → World → Prop} {α : Type}
end
end Kd
end Go.Proofs.YthfoanmokcepcaaW.PrintWords
end
section
namespace Go.Proofs.YthfoanmokcepcaaW.PrintWords
end Go.Proofs.YthfoanmokcepcaaW.PrintWords
namespace Kd
end Kd
end
section
namespace Go.Proofs.YthfoanmokcepcaaW.PrintWords
end Go.Proofs.YthfoanmokcepcaaW.PrintWords
namespace Kd
end Kd
end
section
namespace Go.Proofs.YthfoanmokcepcaaW.PrintWords
open Go.RowKit
namespace Kd
/-- What a kind reads lies in the blocks: nothing else of the world is looked at. -/
structure Heap {α : Type} (d : Kd α) : Prop where
  K : ∀ {w w1 : World} {x : α} {cs : List Value}, (∀ k, k < w.heap.size → w1.heap[k]? = w.heap[k]?) → d.K w x cs → d.K w1 x cs
theorem cell_heap {w w1 : World} (hb : ∀ k, k < w.heap.size → w1.heap[k]? = w.heap[k]?) {a : Addr} {v : Value} (h : w.cell? a = some v) : w1.cell? a = some v := by
  have := hb a.block (World.block_lt_of_cell? w a h)
  simpa [World.cell?, this] using h
theorem Heap.C {α : Type} {d : Kd α} (hd : Heap d) {w w1 : World} {A : Option Addr} {n : Nat} {xs : List α} (hb : ∀ k, k < w.heap.size → w1.heap[k]? = w.heap[k]?) (h : d.C w A n xs) : d.C w1 A n xs :=
  ⟨h.1, h.2.1, fun hn => by
    obtain ⟨ad, e, hc⟩ := h.2.2 hn
    refine ⟨ad, e, fun j p hj => ?_⟩
    obtain ⟨c, hs, hr, hcell⟩ := hc j p hj
    exact ⟨c, hs, hd.K hb hr, fun i u hu => cell_heap hb (hcell i u hu)⟩⟩
section
variable {α : Type} {d : Kd α} {e base g n c : Nat} {ok : Nat → Prop} {w w0 W : World} {A : Option Addr} {xs : List α}
end
end Kd
end Go.Proofs.YthfoanmokcepcaaW.PrintWords
end
section
namespace Go.Proofs.YthfoanmokcepcaaW.PrintWords
open Go.RowKit
def Kept (w W : World) (S : Nat → Prop) : Prop := w.heap.size ≤ W.heap.size ∧ ∀ i, i < w.heap.size → ¬ S i → W.heap[i]? = w.heap[i]?
section
variable {w W W2 : World} {S S2 S' : Nat → Prop}
theorem Kept.refl (w : World) (S : Nat → Prop) : Kept w w S := ⟨Nat.le_refl _, fun _ _ _ => rfl⟩
theorem Kept.of_below (h : Below w.heap.size w W) (S : Nat → Prop) : Kept w W S := ⟨h.size, fun i hi _ => h.block i hi⟩
theorem Kept.mono (h : Kept w W S) (hs : ∀ k, S k → S' k) : Kept w W S' := ⟨h.1, fun i hi hn => h.2 i hi (fun hk => hn (hs i hk))⟩
theorem Kept.then_ (h : Kept w W S) (k : Kept W W2 S2) (hs : ∀ k, S2 k → S k ∨ w.heap.size ≤ k) : Kept w W2 S :=
  ⟨Nat.le_trans h.1 k.1, fun i hi hn => (k.2 i (Nat.lt_of_lt_of_le hi h.1) (fun h2 => (hs i h2).elim hn (fun h3 => by omega))).trans (h.2 i hi hn)⟩
theorem Kept.below (h : Kept w W S) (hb : Below W.heap.size W W2) : Kept w W2 S := h.then_ (Kept.of_below hb (fun _ => False)) (fun _ hk => hk.elim)
theorem Kept.alloc (h : Kept w W S) (o : Obj) : Kept w (W.alloc o) S := h.below (below_alloc (Below.refl _ _) o)
theorem Kept.drew (h : Kept w W S) : Kept w W.drew S := h
theorem Kept.drewN (h : Kept w W S) (m : Nat) : Kept w (W.drewN m) S := h
theorem Kept.setCell (h : Kept w W S) {p : Addr} (hp : S p.block ∨ w.heap.size ≤ p.block) (u : Value) : Kept w (W.setCell p u) S :=
  h.then_ (S2 := fun k => k = p.block) ⟨by simp [World.setCell], fun i _ hn => Below.heap_setCell W p u i hn⟩ (fun k hk => by rw [hk]; exact hp)
/-- Beside a state: what was written is new since. -/
theorem Kept.keep {g : Nat} (h : KeepBut w W g none) (k : Kept W W2 S2) (hs : ∀ k, S2 k → w.heap.size ≤ k) : KeepBut w W2 g none :=
  ⟨Nat.le_trans h.1 k.1, fun i hi hg hr => (k.2 i (Nat.lt_of_lt_of_le hi h.1) (fun h2 => by have := hs i h2; omega)).trans (h.2 i hi hg hr)⟩
end
namespace Kd
section
variable {α : Type} {d : Kd α} {e base n c : Nat} {ok oki S S2 : Nat → Prop} {w w0 W W1 W2 : World} {v : Value} {A : Option Addr} {xs : List α} {i : Int} {cs : List Value}
end
end Kd
end Go.Proofs.YthfoanmokcepcaaW.PrintWords
end
section
namespace Go.Proofs.YthfoanmokcepcaaW.PrintWords
open Go.RowKit
/-- P holds in W and in every world that has W's blocks of ok. -/
def Foot (P : World → Prop) (W : World) (ok : Nat → Prop) : Prop := ∀ W' : World, (∀ k, ok k → k < W.heap.size → W'.heap[k]? = W.heap[k]?) → P W'
theorem heap_lt {W W1 : World} {k : Nat} (h : W1.heap[k]? = W.heap[k]?) (hlt : k < W.heap.size) : k < W1.heap.size := by
  rw [Array.getElem?_eq_getElem hlt] at h
  exact (Array.getElem?_eq_some_iff.1 h).1
namespace Foot
variable {P Q : World → Prop} {W W1 : World} {ok ok' : Nat → Prop}
theorem now (h : Foot P W ok) : P W := h W (fun _ _ _ => rfl)
theorem mono (h : Foot P W ok) (hok : ∀ k, ok k → ok' k) : Foot P W ok' := fun W' hW => h W' (fun k hk hlt => hW k (hok k hk) hlt)
theorem bound (h : Foot P W ok) : Foot P W (fun k => ok k ∧ k < W.heap.size) := fun W' hW => h W' (fun k hk hlt => hW k ⟨hk, hlt⟩ hlt)
theorem step (h : Foot P W ok) (hm : ∀ k, ok k → k < W.heap.size → W1.heap[k]? = W.heap[k]?) : Foot P W1 ok := fun W' hW => h W' (fun k hk hlt => (hW k hk (heap_lt (hm k hk hlt) hlt)).trans (hm k hk hlt))
theorem imp (h : Foot P W ok) (hi : ∀ W', P W' → Q W') : Foot Q W ok := fun W' hW => hi W' (h W' hW)
/-- Moved, and still elder than what is new since W. -/
theorem old (h : Foot P W ok) (hb : Below W.heap.size W W1) : Foot P W1 (fun k => ok k ∧ k < W.heap.size) := (h.bound).step (fun k _ hlt => hb.block k hlt)
end Foot
namespace Kd
/-- A row that is only read: what it leads to lies in ok. -/
def F {α : Type} (d : Kd α) (W : World) (ok : Nat → Prop) (A : Option Addr) (n : Nat) (xs : List α) : Prop := Foot (fun W => d.C W A n xs) W ok
/-- An element's cells: what they lead to lies in ok. -/
def FK {α : Type} (d : Kd α) (W : World) (ok : Nat → Prop) (x : α) (c : List Value) : Prop := Foot (fun W => d.K W x c) W ok
section
variable {α β : Type} {d : Kd α} {e base n n' cc g N : Nat} {ok ok' okp S : Nat → Prop} {w w0 w1 W W1 : World} {A A' : Option Addr} {u v v1 : Value} {xs : List α} {xs' : List β} {d' : Kd β} {x : α} {c : List Value}
end
end Kd
end Go.Proofs.YthfoanmokcepcaaW.PrintWords
end
section
namespace Go.Proofs.YthfoanmokcepcaaW.PrintWords
open Go.RowKit
namespace Kd
section
variable {α : Type} {d : Kd α} {e base n cc g : Nat} {ok ok' okp S : Nat → Prop} {w w1 W W1 : World} {A : Option Addr} {u v v1 : Value} {xs : List α} {x : α} {c : List Value}
/-- A row of elements (type e) of the call's own; what the elements lead to is only read, and is not this row. -/
def N {α : Type} (d : Kd α) (e : Nat) (w : World) (base : Nat) (ok : Nat → Prop) (v : Value) (xs : List α) : Prop :=
  (∀ k, v.ownBlock = some k → ok k) ∧ ∃ rows : List (List Value), rows.length = xs.length ∧ (raw d.sz).R e w base (fun k => some k = v.ownBlock) v rows ∧ ∀ (j : Nat) (x : α) (c : List Value), xs[j]? = some x → rows[j]? = some c → FK d w (fun k => ok k ∧ some k ≠ v.ownBlock) x c
end
end Kd
end Go.Proofs.YthfoanmokcepcaaW.PrintWords
end
section
namespace Go.Proofs.YthfoanmokcepcaaW.PrintWords
end Go.Proofs.YthfoanmokcepcaaW.PrintWords
namespace Kd
end Kd
end
section
namespace Go.Proofs.YthfoanmokcepcaaW.PrintWords
end Go.Proofs.YthfoanmokcepcaaW.PrintWords
namespace Kd
end Kd
end
section
namespace Go.Proofs.YthfoanmokcepcaaW.PrintWords
end Go.Proofs.YthfoanmokcepcaaW.PrintWords
end
section
namespace Go.Proofs.YthfoanmokcepcaaW.PrintWords
/-- One cell an element. -/
theorem Reps.one {α : Type} {R : α → List Value → Prop} {ps : List α} {cs : List Value} {p : α} {v : Value} (hp : R p [v]) (h : Reps R 1 ps cs) : Reps R 1 (p :: ps) (v :: cs) := by
  refine ⟨by simp [h.1], fun j q hq => ?_⟩
  cases j with
  | zero =>
    simp only [List.getElem?_cons_zero, Option.some.injEq] at hq
    subst hq
    simpa using hp
  | succ j =>
    simp only [List.getElem?_cons_succ] at hq
    have h1 := h.2 j q hq
    simpa [Nat.mul_one] using h1
/-- More cells an element: told apart by the cells' list. -/
theorem Reps.front {α : Type} {R : α → List Value → Prop} {size : Nat} {ps : List α} {cs c all : List Value} {p : α} (hp : R p c) (hc : c.length = size) (h : Reps R size ps cs) (ha : c ++ cs = all) : Reps R size (p :: ps) all := by
  subst ha
  refine ⟨by rw [List.length_append, hc, h.1, List.length_cons, Nat.succ_mul, Nat.add_comm], fun j q hq => ?_⟩
  cases j with
  | zero =>
    simp only [List.getElem?_cons_zero, Option.some.injEq] at hq
    subst hq
    rw [Nat.zero_mul, List.drop_zero, List.take_append_of_le_length (by omega), List.take_of_length_le (by omega)]
    exact hp
  | succ j =>
    simp only [List.getElem?_cons_succ] at hq
    have h1 := h.2 j q hq
    rw [Nat.succ_mul, List.drop_append, List.drop_of_length_le (by rw [hc]; exact Nat.le_add_left _ _), List.nil_append, hc, Nat.add_sub_cancel]
    exact h1
theorem Reps.c2 {α : Type} {R : α → List Value → Prop} {ps : List α} {cs : List Value} {p : α} {va vb : Value} (hp : R p [va, vb]) (h : Reps R 2 ps cs) : Reps R 2 (p :: ps) (va :: vb :: cs) := Reps.front hp rfl h rfl
theorem Reps.c3 {α : Type} {R : α → List Value → Prop} {ps : List α} {cs : List Value} {p : α} {va vb vc : Value} (hp : R p [va, vb, vc]) (h : Reps R 3 ps cs) : Reps R 3 (p :: ps) (va :: vb :: vc :: cs) := Reps.front hp rfl h rfl
theorem Reps.c4 {α : Type} {R : α → List Value → Prop} {ps : List α} {cs : List Value} {p : α} {va vb vc vd : Value} (hp : R p [va, vb, vc, vd]) (h : Reps R 4 ps cs) : Reps R 4 (p :: ps) (va :: vb :: vc :: vd :: cs) := Reps.front hp rfl h rfl
theorem Reps.c5 {α : Type} {R : α → List Value → Prop} {ps : List α} {cs : List Value} {p : α} {va vb vc vd ve : Value} (hp : R p [va, vb, vc, vd, ve]) (h : Reps R 5 ps cs) : Reps R 5 (p :: ps) (va :: vb :: vc :: vd :: ve :: cs) := Reps.front hp rfl h rfl
theorem Reps.c6 {α : Type} {R : α → List Value → Prop} {ps : List α} {cs : List Value} {p : α} {va vb vc vd ve vf : Value} (hp : R p [va, vb, vc, vd, ve, vf]) (h : Reps R 6 ps cs) : Reps R 6 (p :: ps) (va :: vb :: vc :: vd :: ve :: vf :: cs) := Reps.front hp rfl h rfl
theorem Reps.c7 {α : Type} {R : α → List Value → Prop} {ps : List α} {cs : List Value} {p : α} {va vb vc vd ve vf vg : Value} (hp : R p [va, vb, vc, vd, ve, vf, vg]) (h : Reps R 7 ps cs) : Reps R 7 (p :: ps) (va :: vb :: vc :: vd :: ve :: vf :: vg :: cs) := Reps.front hp rfl h rfl
theorem Reps.c9 {α : Type} {R : α → List Value → Prop} {ps : List α} {cs : List Value} {p : α} {va vb vc vd ve vf vg vh vi : Value} (hp : R p [va, vb, vc, vd, ve, vf, vg, vh, vi]) (h : Reps R 9 ps cs) : Reps R 9 (p :: ps) (va :: vb :: vc :: vd :: ve :: vf :: vg :: vh :: vi :: cs) := Reps.front hp rfl h rfl
theorem Reps.c10 {α : Type} {R : α → List Value → Prop} {ps : List α} {cs : List Value} {p : α} {va vb vc vd ve vf vg vh vi vj : Value} (hp : R p [va, vb, vc, vd, ve, vf, vg, vh, vi, vj]) (h : Reps R 10 ps cs) : Reps R 10 (p :: ps) (va :: vb :: vc :: vd :: ve :: vf :: vg :: vh :: vi :: vj :: cs) := Reps.front hp rfl h rfl
end Go.Proofs.YthfoanmokcepcaaW.PrintWords
end
section
namespace Go.Proofs.YthfoanmokcepcaaW.PrintLast
/-- Number i is listed too. -/
def up (b : Nat → Bool) (i : Nat) : Nat → Bool := fun j => if j = i then true else b j
section
variable {P : Program} {ops : Array Oper} {Q : Exit → Act → World → Prop} {md : Region.Mode} {T : Bool × List (List Nat × List Nat)} {B : List Nat} {O : List Nat} {b : Nat → Bool} {i j n : Nat}
end
end Go.Proofs.YthfoanmokcepcaaW.PrintLast
end
section
namespace Go.Proofs.YthfoanmokcepcaaW.PrintWords
end Go.Proofs.YthfoanmokcepcaaW.PrintWords
namespace Go.Proofs.YthfoanmokcepcaaW.PrintLast
end Go.Proofs.YthfoanmokcepcaaW.PrintLast
end
section
namespace Go.Proofs.YthfoanmokcepcaaW.PrintWords
end Go.Proofs.YthfoanmokcepcaaW.PrintWords
end
section
namespace Go.Proofs.YthfoanmokcepcaaW.PrintWords
end Go.Proofs.YthfoanmokcepcaaW.PrintWords
namespace Kd
end Kd
end
section
namespace Go.Proofs.YthfoanmokcepcaaW.PrintMore
open Go.RowKit Go.Proofs.YthfoanmokcepcaaW.PrintWords
namespace Kd
open Go.Proofs.YthfoanmokcepcaaW.PrintWords.Kd
end Kd
namespace Kd
open Go.Proofs.YthfoanmokcepcaaW.PrintWords.Kd
section
variable {α : Type} {d : Kd α} {e base g N : Nat} {ok : Nat → Prop} {W w1 : World} {u v : Value} {xs : List α}
end
end Kd
end Go.Proofs.YthfoanmokcepcaaW.PrintMore
namespace Go.Proofs.YthfoanmokcepcaaW.PrintWords
open Go.RowKit
section
variable {P : Program} {ops : Array Oper} {rest : List Oper} {o : Oper} {a : Act} {Q : Exit → Act → World → Prop} {W : World}
end
/-- The greater of two whole numbers, as Go's max tells it. -/
def mx (a b : Int) : Int := if a < b then b else a
/-- The smaller of two whole numbers, as Go's min tells it. -/
def mn (a b : Int) : Int := if b < a then b else a
/-- A shift to the left, as Go tells it: a count beyond the width leaves nothing. -/
def shl (k : IntKind) (x y : Int) : Int := k.wrap (x * 2 ^ min y.toNat k.bits)
/-- A shift to the right: a count beyond the width leaves the sign. -/
def shr (k : IntKind) (x y : Int) : Int := x / 2 ^ min y.toNat k.bits
namespace Kd
section
variable {α : Type} {d : Kd α} {e base : Nat} {ok : Nat → Prop} {W w1 : World} {v : Value} {xs : List α}
end
section
variable {α : Type} {d : Kd α} {e base g n cap : Nat} {ok oki okp : Nat → Prop} {W : World} {xs : List α} {i : Int} {c : List Value}
end
section
variable {α : Type} {d : Kd α} {e base b b' g N : Nat} {ok ok1 : Nat → Prop} {W W2 w1 : World} {u v : Value} {xs ys : List α} {S : Nat → Prop}
end
end Kd
end Go.Proofs.YthfoanmokcepcaaW.PrintWords
namespace Go.Proofs.YthfoanmokcepcaaW.PrintWords
open Go.RowKit
namespace Kd
section
variable {α β : Type} {d : Kd α} {e base base' n m c g N' lo hi : Nat} {ok ok' S : Nat → Prop} {w W w1 : World} {A : Option Addr} {ad : Addr} {u v v1 : Value} {xs : List α}
end
end Kd
end Go.Proofs.YthfoanmokcepcaaW.PrintWords
end
section
namespace Go.Proofs.Ythfoanmokcepcaa.CK
open Go.RowKit Go.Proofs.YthfoanmokcepcaaW.PrintWords Go.Proofs.YthfoanmokcepcaaW.PrintLast Go.Proofs.YthfoanmokcepcaaW.PrintMore
set_option linter.unusedVariables false
structure S55 where
  f0 : Int
  f1 : ByteArray
  f2 : ByteArray
  f3 : (List Int)
  f4 : Int
def k55 : Kd S55 := Kd.iso (Kd.pair (Kd.int .i64) (Kd.pair Kd.string (Kd.pair Kd.string (Kd.pair (Kd.slice 5 (Kd.int .u8)) (Kd.int .i64))))) (fun x : S55 => (x.f0, x.f1, x.f2, x.f3, x.f4))
end Go.Proofs.Ythfoanmokcepcaa.CK
end
section
namespace Go.Proofs.Ythfoanmokcepcaa.DS
open Go.Proofs.Ythfoanmokcepcaa.H Go.Proofs.Ythfoanmokcepcaa.AS Go.RowKit Go.Proofs.YthfoanmokcepcaaW.PrintWords Go.Proofs.Ythfoanmokcepcaa.CK
set_option linter.unusedVariables false
theorem flat_one (k : IntKind) (l : List Int) : l.flatMap (fun n => ([.lit (.int k n)] : List HV)) = l.map fun n => .lit (.int k n) := by
  induction l with
  | nil => rfl
  | cons x r ih => simp only [List.flatMap_cons, ih]; rfl
theorem repInts {w : World} {A : Option Addr} {c : Nat} {l : List Int} (hr : Kd.C (Kd.int .i64) w A l.length l) (hc : l.length ≤ c) : Rep (H.m0 w) (rowL intC 1 l) (.slice A l.length c) := (Br.int .i64).row hr hc
end Go.Proofs.Ythfoanmokcepcaa.DS
end
section
namespace Go.Proofs.Ythfoanmokcepcaa.DS
open Go.Proofs.Ythfoanmokcepcaa.H Go.Proofs.Ythfoanmokcepcaa.AS Go.RowKit Go.Proofs.YthfoanmokcepcaaW.PrintWords Go.Proofs.Ythfoanmokcepcaa.CK
set_option linter.unusedVariables false
set_option linter.unusedSimpArgs false
theorem br_congr {α : Type} {d : Kd α} {e e' : α → List HV} (h : Br d e) (he : ∀ x, e x = e' x) : Br d e' := by
  have : e = e' := funext he
  rw [← this]; exact h
def toBy (s : ByteArray) : By := s.data.toList
theorem strV_to (s : ByteArray) : strV (toBy s) = .lit (.string s) := by
  obtain ⟨⟨l⟩⟩ := s
  rfl
theorem toBy_len (s : ByteArray) : (toBy s).length = s.size := by
  obtain ⟨⟨l⟩⟩ := s
  rfl
theorem flat_map {α β γ : Type} (l : List α) (f : α → β) (g : β → List γ) : (l.map f).flatMap g = l.flatMap fun x => g (f x) := List.flatMap_map f g l
def toST (x : S55) : ST := ⟨x.f0, toBy x.f1, toBy x.f2, x.f3, x.f4⟩
theorem br55 : Br k55 (fun x => stC (toST x)) := by
  refine br_congr (Br.iso (Br.pair (Br.int .i64) (Br.pair Br.string (Br.pair Br.string (Br.pair (Br.slice 5 (Br.int .u8)) (Br.int .i64))))) (fun x : S55 => (x.f0, x.f1, x.f2, x.f3, x.f4))) ?_
  intro x
  show _ = [.lit (.int .i64 x.f0), strV (toBy x.f1), strV (toBy x.f2), byV x.f3, .lit (.int .i64 x.f4)]
  rw [strV_to, strV_to]
  unfold byV bl
  rw [← flat_one]
  rfl
theorem repSteps {w : World} {A : Option Addr} {c : Nat} {l : List S55} (hr : Kd.C k55 w A l.length l) (hc : l.length ≤ c) : Rep (H.m0 w) (rowL stC 5 (l.map toST)) (.slice A l.length c) := by
  have := br55.row hr hc
  have e1 : rows stC (l.map toST) = l.flatMap fun x => stC (toST x) := flat_map _ _ _
  have e2 : (l.map toST).length = l.length := List.length_map ..
  unfold rowL
  rw [e1, e2]
  exact this
theorem wf_int {n : Int} (h : (Lit.int .i64 n).wf = true) : -9223372036854775808 ≤ n ∧ n ≤ 9223372036854775807 := by
  simp only [Lit.wf, IntKind.min, IntKind.max, IntKind.signed, IntKind.bits, Bool.and_eq_true, decide_eq_true_eq, if_true] at h
  omega
theorem oks_of {l : List S55} (q : (l.length ≤ maxLen ∧ ∀ x_ ∈ l, ((Lit.int .i64 x_.f0).wf = true ∧ x_.f1.size ≤ maxLen ∧ x_.f2.size ≤ maxLen ∧ (x_.f3.length ≤ maxLen ∧ ∀ x__ ∈ x_.f3, (Lit.int .u8 x__).wf = true) ∧ (Lit.int .i64 x_.f4).wf = true))) : OkS (l.map toST) := by
  refine ⟨by rw [List.length_map]; exact q.1, fun m hm => ?_⟩
  obtain ⟨x, hx, rfl⟩ := List.mem_map.1 hm
  obtain ⟨-, h1, h2, ⟨h3, -⟩, h4⟩ := q.2 x hx
  obtain ⟨h5, h6⟩ := wf_int h4
  exact ⟨by show (toBy x.f1).length ≤ _; rw [toBy_len]; exact h1, by show (toBy x.f2).length ≤ _; rw [toBy_len]; exact h2, h3, h5, h6⟩
end Go.Proofs.Ythfoanmokcepcaa.DS
end
section
namespace Go.Proofs.Ythfoanmokcepcaa.YKW
open Go.Proofs.Ythfoanmokcepcaa.H Go.Proofs.Ythfoanmokcepcaa.AS Go.RowKit Go.Proofs.YthfoanmokcepcaaW.PrintWords Go.Proofs.YthfoanmokcepcaaW.PrintLast Go.Proofs.YthfoanmokcepcaaW.PrintMore Go.Proofs.Ythfoanmokcepcaa.CK
set_option linter.unusedVariables false
set_option linter.unusedSimpArgs false
theorem diskCrash_walk (a0 : Int) (A1 : Option Addr) (c1 : Nat) (l1 : List (S55)) (A2 : Option Addr) (c2 : Nat) (l2 : List Int) (A3 : Option Addr) (c3 : Nat) (l3 : List (S55)) (A4 : Option Addr) (c4 : Nat) (l4 : List Int) (w : World) (hc1 : l1.length ≤ c1) (hr1 : Kd.C k55 w A1 l1.length l1) (hc2 : l2.length ≤ c2) (hr2 : Kd.C (Kd.int .i64) w A2 l2.length l2) (hc3 : l3.length ≤ c3) (hr3 : Kd.C k55 w A3 l3.length l3) (hc4 : l4.length ≤ c4) (hr4 : Kd.C (Kd.int .i64) w A4 l4.length l4) (q0 : (Lit.int .i64 a0).wf = true) (q1 : (l1.length ≤ maxLen ∧ ∀ x_ ∈ l1, ((Lit.int .i64 x_.f0).wf = true ∧ x_.f1.size ≤ maxLen ∧ x_.f2.size ≤ maxLen ∧ (x_.f3.length ≤ maxLen ∧ ∀ x__ ∈ x_.f3, (Lit.int .u8 x__).wf = true) ∧ (Lit.int .i64 x_.f4).wf = true))) (q2 : (l2.length ≤ maxLen ∧ ∀ x_ ∈ l2, (Lit.int .i64 x_).wf = true)) (q3 : (l3.length ≤ maxLen ∧ ∀ x_ ∈ l3, ((Lit.int .i64 x_.f0).wf = true ∧ x_.f1.size ≤ maxLen ∧ x_.f2.size ≤ maxLen ∧ (x_.f3.length ≤ maxLen ∧ ∀ x__ ∈ x_.f3, (Lit.int .u8 x__).wf = true) ∧ (Lit.int .i64 x_.f4).wf = true))) (q4 : (l4.length ≤ maxLen ∧ ∀ x_ ∈ l4, (Lit.int .i64 x_).wf = true)) :
    Calls Try.prog 9 #[.int .i64 a0, .slice A1 l1.length c1, .slice A2 l2.length c2, .slice A3 l3.length c3, .slice A4 l4.length c4] w fun e w' => e = .returned (.bool true) ∧ Below w.heap.size w w' := by
  refine law_of (DS.crash_law a0 (l1.map DS.toST) l2 (l3.map DS.toST) l4 (DS.oks_of q1) (DS.oks_of q3) s0) rfl ?_
  intro j x hj
  rcases j with _ | _ | _ | _ | _ | j <;> simp at hj
  · subst hj; exact .lit _
  · subst hj; exact DS.repSteps hr1 hc1
  · subst hj; exact DS.repInts hr2 hc2
  · subst hj; exact DS.repSteps hr3 hc3
  · subst hj; exact DS.repInts hr4 hc4
end Go.Proofs.Ythfoanmokcepcaa.YKW
end
section
namespace Go.Proofs.YthfoanmokcepcaaW.Opens
open Go.RowKit Go.WideShapes Go.Proofs.YthfoanmokcepcaaW.PrintWords
/-- Whatever can be read as a value of type t is a value of kind d, of which Q holds. -/
def Opens (P : Program) (t : TypeId) {α : Type} (d : Kd α) (Q : α → Prop) : Prop :=
  ∀ {H : Type} (enc : TypeId × Value → H) (w : World) (base : Nat) (spare : Nat → Bool) (held : Bool) (fuel : Nat) (cs : List Value) (x : DataW H × List MemPlace),
    DataW.trod enc P w base spare held fuel t cs = some x → ∃ a : α, d.K w a cs ∧ Q a
variable {P : Program} {α β : Type}
theorem opens_int {t : TypeId} {k : IntKind} (ht : P.underlying t = some (.int k)) : Opens P t (Kd.int k) (fun n => (Lit.int k n).wf = true) := by
  intro H enc w base spare held fuel cs x h
  obtain ⟨n, rfl, _, hw⟩ := DataW.trod_int ht h
  exact ⟨n, rfl, hw⟩
theorem opens_string {t : TypeId} (ht : P.underlying t = some .string) : Opens P t Kd.string (fun s => s.size ≤ maxLen) := by
  intro H enc w base spare held fuel cs x h
  obtain ⟨s, rfl, _, hs⟩ := DataW.trod_string ht h
  exact ⟨s, rfl, hs⟩
theorem add_of_add (a : Addr) (i j : Nat) : (a.add i).add j = a.add (i + j) := by
  unfold Addr.add
  by_cases hi : i = 0 <;> by_cases hj : j = 0 <;> simp [hi, hj, Nat.add_assoc]
theorem opens_slice {t e : TypeId} (n : Nat) (ht : P.underlying t = some (.slice e)) {d : Kd α} {Q : α → Prop} (hs : P.cellsOf e = d.sz) (he : Opens P e d Q) :
    Opens P t (Kd.slice n d) (fun l => l.length ≤ maxLen ∧ ∀ x ∈ l, Q x) := by
  intro H enc w base spare held fuel cs x h
  rcases DataW.trod_slice ht h with ⟨rfl, _⟩ | ⟨a, len, cap, elems, rest, n', _, rfl, _, _, hl, hm, hlen, hel, _, _⟩
  · exact ⟨[], ⟨none, 0, rfl, Nat.le_refl _, Kd.C_nil _ _⟩, by simp, fun x hx => by simp at hx⟩
  · have each : ∀ i : Fin len, ∃ (x : α) (c : List Value), d.K w x c ∧ Q x ∧ ∀ j u, c[j]? = some u → w.cell? (a.add (i.val * d.sz + j)) = some u := by
      intro i
      have h1 := hel i.val i.isLt
      rw [List.getElem?_eq_getElem (by omega), Option.bind_eq_some_iff] at h1
      obtain ⟨c, hc, hy⟩ := h1
      obtain ⟨x, hK, hQ⟩ := he enc w base spare held n' c _ hy
      obtain ⟨_, hcl, hcc⟩ := World.cells?_some hc
      refine ⟨x, c, hK, hQ, fun j u hu => ?_⟩
      have hj : j < c.length := by
        rcases Nat.lt_or_ge j c.length with hlt | hge
        · exact hlt
        · rw [List.getElem?_eq_none hge] at hu; cases hu
      have := hcc j (by omega)
      rw [add_of_add, hs] at this
      rw [this, hu]
    let f : Fin len → α := fun i => Classical.choose (each i)
    have hf : ∀ i : Fin len, ∃ c : List Value, d.K w (f i) c ∧ Q (f i) ∧ ∀ j u, c[j]? = some u → w.cell? (a.add (i.val * d.sz + j)) = some u := fun i => Classical.choose_spec (each i)
    have hlen' : (List.ofFn f).length = len := List.length_ofFn
    have hget : ∀ j p, (List.ofFn f)[j]? = some p → ∃ hj : j < len, p = f ⟨j, hj⟩ := by
      intro j p hp
      have hj : j < len := by
        rcases Nat.lt_or_ge j len with hlt | hge
        · exact hlt
        · rw [List.getElem?_eq_none (by omega)] at hp; cases hp
      rw [List.getElem?_eq_getElem (by omega), List.getElem_ofFn] at hp
      exact ⟨hj, (Option.some.inj hp).symm⟩
    refine ⟨List.ofFn f, ⟨some a, cap, by rw [hlen'], by omega, hlen'.symm ▸ ?_⟩, by omega, ?_⟩
    · refine ⟨hlen', ?_, fun _ => ⟨a, rfl, fun j p hp => ?_⟩⟩
      · unfold maxLen at hm; omega
      · obtain ⟨hj, rfl⟩ := hget j p hp
        obtain ⟨c, hK, _, hc⟩ := hf ⟨j, hj⟩
        exact ⟨c, d.K_len hK, hK, fun i u hu => hc i u hu⟩
    · intro x hx
      obtain ⟨j, hj⟩ := List.getElem?_of_mem hx
      obtain ⟨hj', rfl⟩ := hget j x hj
      exact (hf ⟨j, hj'⟩).choose_spec.2.1
/-- The fields of a struct from the one at offset o on. -/
def OpensF (P : Program) (o : Nat) (fs : List Field) (d : Kd α) (Q : α → Prop) : Prop :=
  ∀ {H : Type} (enc : TypeId × Value → H) (w : World) (base : Nat) (spare : Nat → Bool) (held : Bool) (fuel : Nat) (cs : List Value),
    (∀ f ∈ fs, ∃ x, DataW.trod enc P w base spare held fuel f.type ((cs.drop f.offset).take (P.cellsOf f.type)) = some x) → cs.length = o + d.sz → ∃ a : α, d.K w a (cs.drop o) ∧ Q a
theorem opensF_one {o : Nat} {f : Field} {d : Kd α} {Q : α → Prop} (ho : f.offset = o) (hs : P.cellsOf f.type = d.sz) (h : Opens P f.type d Q) : OpensF P o [f] d Q := by
  intro H enc w base spare held fuel cs hx hl
  obtain ⟨x, hx⟩ := hx f (by simp)
  rw [ho, hs, List.take_of_length_le (by simp; omega)] at hx
  exact h enc w base spare held fuel _ x hx
theorem opensF_cons {o : Nat} {f : Field} {fs : List Field} {d : Kd α} {d' : Kd β} {Q : α → Prop} {Q' : β → Prop} (ho : f.offset = o) (hs : P.cellsOf f.type = d.sz) (h : Opens P f.type d Q) (hr : OpensF P (o + d.sz) fs d' Q') :
    OpensF P o (f :: fs) (Kd.pair d d') (fun x => Q x.1 ∧ Q' x.2) := by
  intro H enc w base spare held fuel cs hx hl
  have hl' : cs.length = o + (d.sz + d'.sz) := hl
  obtain ⟨x, hx1⟩ := hx f (by simp)
  rw [ho, hs] at hx1
  obtain ⟨a, ha, hq⟩ := h enc w base spare held fuel _ x hx1
  obtain ⟨b, hb, hq'⟩ := hr enc w base spare held fuel cs (fun g hg => hx g (by simp [hg])) (by omega)
  refine ⟨(a, b), ⟨_, _, ?_, ha, hb⟩, hq, hq'⟩
  rw [← List.drop_drop, List.take_append_drop]
theorem opens_struct {t : TypeId} {fs : Array Field} (ht : P.underlying t = some (.struct fs)) {d : Kd α} {Q : α → Prop} (hs : P.cellsOf t = d.sz) (h : OpensF P 0 fs.toList d Q) : Opens P t d Q := by
  intro H enc w base spare held fuel cs x hx
  obtain ⟨xs, n, _, _, hl, hxl, hf⟩ := DataW.trod_struct ht hx
  obtain ⟨a, ha, hq⟩ := h enc w base spare held n cs (fun f hm => by
    obtain ⟨i, hi⟩ := List.getElem?_of_mem hm
    have hi' : fs[i]? = some f := by rw [← hi, Array.getElem?_toList]
    have hlt : i < fs.size := by
      rcases Nat.lt_or_ge i fs.size with hlt | hge
      · exact hlt
      · rw [Array.getElem?_eq_none hge] at hi'; cases hi'
    rw [hf i f hi']
    exact ⟨_, List.getElem?_eq_getElem (by omega)⟩) (by omega)
  exact ⟨a, ha, hq⟩
theorem opens_iso {t : TypeId} {d : Kd α} {Q : α → Prop} (f : β → α) (g : α → β) (hg : ∀ a, f (g a) = a) (h : Opens P t d Q) : Opens P t (Kd.iso d f) (fun b => Q (f b)) := by
  intro H enc w base spare held fuel cs x hx
  obtain ⟨a, ha, hq⟩ := h enc w base spare held fuel cs x hx
  exact ⟨g a, (show d.K w (f (g a)) cs by rw [hg]; exact ha), (show Q (f (g a)) by rw [hg]; exact hq)⟩
/-- A parameter that is a slice. -/
theorem open_slice {t e : TypeId} {n : Nat} {d : Kd α} {Q : List α → Prop} (ht : P.underlying t = some (.slice e)) (h : Opens P t (Kd.slice n d) Q) {H : Type} {enc : TypeId × Value → H} {w : World} {base base' : Nat} {spare : Nat → Bool} {held : Bool} {r : Reach} {v : Value} {x : DataW H} {ps : List MemPlace}
    (hv : Value.okWide P w r base' t v) (hx : DataW.Trod enc P w base spare held t v x ps) : ∃ (A : Option Addr) (c : Nat) (l : List α), v = .slice A l.length c ∧ l.length ≤ c ∧ d.C w A l.length l ∧ Q l := by
  obtain ⟨a, len, cap, rfl⟩ := okWide_slice ht hv
  obtain ⟨fuel, hf⟩ := hx
  obtain ⟨l, ⟨A, c, hc, hl, hC⟩, hQ⟩ := h enc w base spare held fuel _ _ hf
  have : (Value.slice a len cap) = .slice A l.length c := by simpa [Value.cells] using hc
  exact ⟨A, c, l, this, hl, hC, hQ⟩
end Go.Proofs.YthfoanmokcepcaaW.Opens
end
