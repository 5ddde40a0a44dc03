/- What the proof of the law DiskCrash needs, cut out of the session's own texts by a program (slim.py): part 4. -/
import Derived.Test.YthfoanmokcepcaaQDiskCrashc
section
namespace Go.Proofs.Ythfoanmokcepcaa.X1
open Go.Proofs.Ythfoanmokcepcaa.H
set_option linter.unusedVariables false
set_option maxRecDepth 100000
/-- (*cordwain/disk.Disk).Truncate -/
def c24 (a0 a1 a2 : HV) (s : HS) (Q : HV → HS → Prop) : Prop :=
  HC Try.prog 36 [a0, a1, (.lit (.slice none 0 0))] s (fun r1 s2 => bindO (vExtract r1 0) fun x3 => bindO (vExtract r1 1) fun x4 => JoinU (fun K5 => bindO (vCmp (Try.prog.underlying 28) .neq x4 (.lit (.int .i64 0))) fun x8 => hcond x8 (Q x4 s2) (Join (fun K9 => bindO (vBin .lss a2 (.lit (.int .i64 0))) fun x12 => hcond x12 (K9 [(.lit (.bool true))] s2) (bindO (vNil x3) fun x13 => bindO (vField 0 x13) fun x14 => bindO (vLoad s2 x14 1 false) fun x15 => bindO (vLenT (Try.prog.underlying 22) s2 x15) fun x16 => bindO (vBin .gtr a2 x16) fun x17 => K9 [x17] s2)) (fun y10 s11 => hcond (y10.headD .junk) (Q (.lit (.int .i64 1)) s11) (K5 [] s11)))) (fun y6 s7 => bindO (vNil x3) fun x18 => bindO (vField 0 x18) fun x19 => bindO (vLoad s7 x19 1 false) fun x20 => bindO (vSliceX 1 x20 none (some a2) (some a2)) fun x21 => bindO (vNil x3) fun x22 => bindO (vField 0 x22) fun x23 => hStore s7 x23 x21 1 (fun s24 => bindO (vNil x3) fun x25 => bindO (vField 1 x25) fun x26 => hStore s24 x26 a2 1 (fun s27 => Q (.lit (.int .i64 0)) s27))))
theorem c24_eq (a0 a1 a2 : HV) (s : HS) (Q : HV → HS → Prop) : (match Try.f24.body with | some c => hwp Try.prog (fun p => if p = 7 then some [1000000] else if p = 115 then some [19] else none) false 1 c (hretQ Try.prog Try.f24.results.toList Q) (([a0, a1, a2] : List HV) ++ List.replicate (Try.f24.ntmps - 3) (.lit undef)) s | none => False) = c24 a0 a1 a2 s Q := by kernel_rfl
theorem HC24 {a0 a1 a2 : HV} {s : HS} {Q : HV → HS → Prop} (h : c24 a0 a1 a2 s Q) : HC Try.prog 24 [a0, a1, a2] s Q := HC_by Try.func24 (by have := c24_eq a0 a1 a2 s Q; exact this.mpr h)
end Go.Proofs.Ythfoanmokcepcaa.X1
end
section
namespace Go.Proofs.Ythfoanmokcepcaa.DS
open Go.Proofs.Ythfoanmokcepcaa.H Go.Proofs.Ythfoanmokcepcaa.AS Go.Proofs.Ythfoanmokcepcaa.X0
set_option linter.unusedVariables false
set_option linter.unusedSimpArgs false
set_option maxRecDepth 100000
def emp0 : HS := fun _ => none
theorem ld_at {t : HS} {p : Nat} {cs : List HV} (hp : t p = some (.cells cs)) (k : Nat) : vLoad t (.ptr p k) 1 false = cs[k]? := load_cell k 1 hp
section
variable {s h : HS} {d K : Nat} {D : DK} {tag : Nat → Nat} {mn ms : Nat} {A : HV} {fid : Nat → Nat} {B : Nat → HV}
theorem new12 {room : Int} (s : HS) : HC Try.prog 12 [.lit (.int .i64 room)] s (fun v t => if 0 ≤ room ∧ room ≤ 1099511627776 then ∃ d h', v = .tup [.ptr d 0, .lit (.int .i64 0)] ∧ PS h' d (DK.new room) ∧ HS.le h' t ∧ HS.le s t ∧ ∀ k ob, s k = some ob → h' k = none else t = s ∧ v = .tup [nilP, .lit (.int .i64 1)]) := by
  refine HC12 ?_
  unfold c12
  refine Join.of (fun xs t => t = s ∧ xs = [.lit (.bool (decide (¬ (0 ≤ room ∧ room ≤ 1099511627776))))]) ?_ ?_
  · rintro _ t ⟨rfl, rfl⟩
    simp only [List.headD_cons]
    by_cases hr : 0 ≤ room ∧ room ≤ 1099511627776
    · rw [if_pos hr]
      simp only [hr, and_self, not_true, decide_false, hcond, bindO]
      intro mn hmn m2 hm2
      have e0 : mn ≠ m2 := fun e => by rw [← e, set_at] at hm2; cases hm2
      have hm2' : t m2 = none := by rw [set_ne _ _ (Ne.symm e0)] at hm2; exact hm2
      rw [show vMk [(0, 1), (1, 1), (2, 1), (3, 1), (4, 1), (5, 1), (6, 1), (7, 1)] [.lit (.int .i64 0), .lit (.map none), .lit (.map none), .lit (.slice none 0 0), .lit (.bool false), .lit (.bool false), .lit (.int .i64 0), .lit (.int .i64 0)] [(0, .lit (.int .i64 room)), (1, .map mn), (2, .map m2)] = some (.agg (dC (DK.new room) mn m2 nilV)) from rfl]
      simp only
      refine boxI (hc_agg _) fun d hd => ?_
      have e1 : d ≠ m2 := fun e => by rw [e, set_at] at hd; cases hd
      have e2 : d ≠ mn := fun e => by rw [e, set_ne _ _ e0, set_at] at hd; cases hd
      have hd' : t d = none := by rw [set_ne _ _ e1, set_ne _ _ e2] at hd; exact hd
      have hmap : (HObj.map .string (fun _ => none) 0) = .map .string (nmF (fun _ => 0) []) 0 := by
        congr 1
        funext k
        cases k <;> rfl
      refine ⟨d, ((emp0.set mn (.map .string (fun _ => none) 0)).set m2 (.map .string (fun _ => none) 0)).set d (.cells (dC (DK.new room) mn m2 nilV)), rfl, ?_, ?_, ?_, ?_⟩
      · refine ⟨fun _ => 0, mn, m2, nilV, fun _ => 0, fun _ => nilV, set_at _ _ _, ?_, ?_, e0, .inl ⟨rfl, rfl, rfl⟩, ⟨rfl, rfl, rfl⟩, (fun q hq => by cases hq), fun i hi => absurd hi (Nat.not_lt_zero _), fun i hi => absurd hi (Nat.not_lt_zero _)⟩
        · rw [set_ne _ _ (Ne.symm e2), set_ne _ _ e0, set_at, hmap]
          rfl
        · rw [set_ne _ _ (Ne.symm e1), set_at, hmap]
          rfl
      · exact le_set (le_set (le_set (fun k o hk => by cases hk) _ _) _ _) _ _
      · exact HS.le.trans (le_set_new _ (le_refl' t) hmn) (HS.le.trans (le_set_new _ (le_refl' _) hm2) (le_set_new _ (le_refl' _) hd))
      · intro k ob hk
        rw [set_ne _ _ (ne_new hk hd'), set_ne _ _ (ne_new hk hm2'), set_ne _ _ (ne_new hk hmn)]
        rfl
    · rw [if_neg hr]
      simp only [hr, not_false_iff, decide_true, hcond]
      exact ⟨trivial, rfl⟩
  · intro K1 hK1
    simp only [lss_n, gtr_n, bindO]
    by_cases h1 : room < 0
    · simp only [h1, decide_true, hcond]
      exact hK1 _ _ ⟨rfl, by rw [decide_eq_true (by omega)]⟩
    · simp only [h1, decide_false, hcond]
      exact hK1 _ _ ⟨rfl, by rw [show decide (1099511627776 < room) = decide (¬ (0 ≤ room ∧ room ≤ 1099511627776)) from by rw [decide_eq_decide]; omega]⟩
/-- What an act leaves behind. -/
def Did2 (s h t : HS) (d : Nat) (r : DK × Int) (v : HV) : Prop := v = .lit (.int .i64 r.2) ∧ ∃ h', PS h' d r.1 ∧ Turn s h t h'
theorem PD.ask (hP : PD h d D tag mn ms A fid B) : PD (h.set d (.cells (dC D.ask mn ms A))) d D.ask tag mn ms A fid B := hP.put D.ask (ask_same D).1 (ask_same D).2.1 (ask_same D).2.2.1 (ask_same D).2.2.2.1
theorem PD.ps (hP : PD h d D tag mn ms A fid B) : PS h d D := ⟨_, _, _, _, _, _, hP⟩
theorem sync14 (hP : PS h d D) (hl : HS.le h s) (hw : Wf K D) (n : By) : HC Try.prog 14 [.ptr d 0, strV n] s (fun v t => Did2 s h t d (D.sync n) v) := by
  obtain ⟨tag, mn, ms, A, fid, B, hP⟩ := hP
  refine HC14 ?_
  unfold c14
  refine (has36 hP hl hw n (.inl ⟨rfl, rfl⟩) (by simp)).mono ?_
  rintro _ t ⟨rfl, hT⟩
  rw [List.nil_append]
  have hP' := hP.ask
  generalize h.set d (.cells (dC D.ask mn ms A)) = h1 at hT hP'
  unfold hasV DK.sync Did2
  by_cases he : D.err [n] = 0
  · simp only [he, ne_eq, not_true, if_false]
    cases hk : look D.now n with
    | none =>
      simp only [vExtract, List.getElem?_cons_succ, List.getElem?_cons_zero, bindO, eql28, hcond]
      refine Join.of (fun _ u => u = t) ?_ ?_
      · rintro _ u rfl
        exact ⟨by trivial, h1, hP'.ps, hT⟩
      · intro K5 hK5
        exact hK5 _ _ rfl
    | some i =>
      have hi := hw.look hk
      obtain ⟨e1, e2, e3, e4, e5, e6⟩ := ask_same D
      obtain ⟨f1, f2⟩ := hP'.file i (by rw [e4]; exact hi)
      obtain ⟨t1, t2⟩ := hP'.ti i (by rw [e4]; exact hi)
      rw [e4] at f1 f2
      have hf := hT.1 _ _ f1
      simp only [vExtract, List.getElem?_cons_succ, List.getElem?_cons_zero, bindO, eql28, decide_true, hcond, hvNil, hvFld, ld_at hf]
      refine Join.of (fun _ u => u = t.set (fid i) (.cells [B i, .lit (.int .i64 ((D.files.getD i fl0).b.length : Nat))])) ?_ ?_
      · rintro _ u rfl
        obtain ⟨tag', B', hfin⟩ := hP'.reF (h3 := h1.set (fid i) (.cells [B i, .lit (.int .i64 ((D.files.getD i fl0).b.length : Nat))])) (i := i) (by rw [e4]; exact hi) (f := ⟨(D.files.getD i fl0).b, (D.files.getD i fl0).b.length⟩) (Bi := B i)
          (fun k ob hk2 ht => by rw [set_ne _ _ (fun e => ht (by rw [e]; exact t1))]; exact hk2) (set_at _ _ _) (f2.keep fun q ob hq hob => by rw [set_ne _ _ (t2 q hq).2]; exact hob) (fun q hq => ⟨.inr (t2 q hq).1, (t2 q hq).2⟩)
        exact ⟨by trivial, _, hfin.ps, hT.trans (Turn.set hT.1 f1 _)⟩
      · intro K5 hK5
        rw [show vLenT (Try.prog.underlying 22) t (B i) = some (.lit (.int .i64 (D.files.getD i fl0).b.length)) from f2.len _ _]
        simp only
        refine store1 hf (by simp) (hc_int _ _) (ho_int _ _) rfl ?_
        exact hK5 _ _ rfl
  · simp only [he, ne_eq, not_false_iff, if_true, vExtract, List.getElem?_cons_succ, List.getElem?_cons_zero, bindO, eql28, decide_false, hcond]
    refine Join.of (fun _ u => u = t) ?_ ?_
    · rintro _ u rfl
      exact ⟨by trivial, h1, hP'.ps, hT⟩
    · intro K5 hK5
      exact hK5 _ _ rfl
theorem remove25 (hP : PS h d D) (hl : HS.le h s) (hw : Wf K D) (n : By) : HC Try.prog 25 [.ptr d 0, strV n] s (fun v t => Did2 s h t d (D.remove n) v) := by
  obtain ⟨tag, mn, ms, A, fid, B, hP⟩ := hP
  refine HC25 ?_
  unfold c25
  refine (has36 hP hl hw n (.inl ⟨rfl, rfl⟩) (by simp)).mono ?_
  rintro _ t ⟨rfl, hT⟩
  rw [List.nil_append]
  have hP' := hP.ask
  generalize h.set d (.cells (dC D.ask mn ms A)) = h1 at hT hP'
  obtain ⟨e1, e2, e3, e4, e5, e6⟩ := ask_same D
  unfold hasV DK.remove Did2
  by_cases he : D.err [n] = 0
  · simp only [he, ne_eq, not_true, if_false]
    cases hk : look D.now n with
    | none =>
      simp only [vExtract, List.getElem?_cons_succ, List.getElem?_cons_zero, bindO, eql28, hcond]
      refine Join.of (fun _ u => u = t) ?_ ?_
      · rintro _ u rfl
        exact ⟨by trivial, h1, hP'.ps, hT⟩
      · intro K5 hK5
        exact hK5 _ _ rfl
    | some i =>
      simp only [vExtract, List.getElem?_cons_succ, List.getElem?_cons_zero, bindO, eql28, decide_true, hcond]
      refine Join.of (fun _ u => ∃ h', PS h' d (D.ask.name ⟨3, n, [], 0⟩) ∧ Turn t h1 u h') ?_ ?_
      · rintro _ u ⟨h', k1, k2⟩
        exact ⟨by trivial, h', k1, hT.trans k2⟩
      · intro K5 hK5
        rw [show vMk [(0, 1), (1, 1), (2, 1)] [.lit (.string .empty), .lit (.string .empty), .lit (.pointer none)] [(0, strV n)] = some (.agg (acP fid ⟨3, n, [], 0⟩)) from rfl]
        simp only
        have hok : okN n = true := by simpa using (err_all he).2
        refine (name35 hP' hT.1 (by rw [e1]; exact hw.sn) (nf := 0) (.inr (.inr ⟨rfl, hok⟩)) (by rw [e3]; have := hw.na; have := hw.k; omega)).mono ?_
        rintro _ u ⟨rfl, A', tag', h', k1, k2⟩
        exact hK5 _ _ ⟨h', k1.ps, k2⟩
  · simp only [he, ne_eq, not_false_iff, if_true, vExtract, List.getElem?_cons_succ, List.getElem?_cons_zero, bindO, eql28, decide_false, hcond]
    refine Join.of (fun _ u => u = t) ?_ ?_
    · rintro _ u rfl
      exact ⟨by trivial, h1, hP'.ps, hT⟩
    · intro K5 hK5
      exact hK5 _ _ rfl
theorem rename18 (hP : PS h d D) (hl : HS.le h s) (hw : Wf K D) (n m : By) : HC Try.prog 18 [.ptr d 0, strV n, strV m] s (fun v t => Did2 s h t d (D.rename n m) v) := by
  obtain ⟨tag, mn, ms, A, fid, B, hP⟩ := hP
  refine HC18 ?_
  unfold c18
  refine hBS_lit (vs := strC m) rfl rfl rfl fun X hX => ?_
  have hle1 := le_set_new (.cells (strC m)) (le_refl' s) hX
  have hXs : (s.set X (.cells (strC m))) X = some (.cells (rows strC [m])) := set_at _ _ _
  generalize s.set X (.cells (strC m)) = s1 at *
  refine (has36 hP (HS.le.trans hl hle1) hw n (.inr ⟨X, rfl, hXs, none_of_le hl hX⟩) (by simp)).mono ?_
  rintro _ t ⟨rfl, hT0⟩
  have hT : Turn s h t _ := (Turn.junk hl hle1).trans hT0
  rw [show ([m] ++ [n] : List By) = [m, n] from rfl]
  have hP' := hP.ask
  generalize h.set d (.cells (dC D.ask mn ms A)) = h1 at hT hP'
  obtain ⟨e1, e2, e3, e4, e5, e6⟩ := ask_same D
  unfold hasV DK.rename Did2
  rw [err_comm]
  by_cases he : D.err [n, m] = 0
  · simp only [he, ne_eq, not_true, if_false]
    cases hk : look D.now n with
    | none =>
      simp only [vExtract, List.getElem?_cons_succ, List.getElem?_cons_zero, bindO, neq28, hcond]
      exact ⟨by trivial, h1, hP'.ps, hT⟩
    | some i =>
      simp only [vExtract, List.getElem?_cons_succ, List.getElem?_cons_zero, bindO, neq28, decide_true, Bool.not_true, hcond, eql_s]
      by_cases hnm : n = m
      · simp only [hnm, decide_true, if_true]
        exact ⟨by trivial, h1, hP'.ps, hT⟩
      · simp only [hnm, decide_false, if_false]
        rw [show vMk [(0, 1), (1, 1), (2, 1)] [.lit (.string .empty), .lit (.string .empty), .lit (.pointer none)] [(0, strV n), (1, strV m)] = some (.agg (acP fid ⟨2, n, m, i⟩)) from rfl]
        simp only
        have hok := (err_all he).2
        simp only [List.all_cons, List.all_nil, Bool.and_true, Bool.and_eq_true] at hok
        refine (name35 hP' hT.1 (by rw [e1]; exact hw.sn) (nf := 0) (.inr (.inl ⟨rfl, by rw [e1]; exact hk, hok.1, hok.2⟩)) (by rw [e3]; have := hw.na; have := hw.k; omega)).mono ?_
        rintro _ u ⟨rfl, A', tag', h', k1, k2⟩
        exact ⟨by trivial, h', k1.ps, hT.trans k2⟩
  · simp only [he, ne_eq, not_false_iff, if_true, vExtract, List.getElem?_cons_succ, List.getElem?_cons_zero, bindO, neq28, decide_false, Bool.not_false, hcond]
    exact ⟨by trivial, h1, hP'.ps, hT⟩
theorem cut27 (hP : PS h d D) (hl : HS.le h s) (n : Int) : HC Try.prog 27 [.ptr d 0, .lit (.int .i64 n)] s (fun v t => v = .tup [] ∧ ∃ h', PS h' d (D.cutAt n) ∧ Turn s h t h') := by
  obtain ⟨tag, mn, ms, A, fid, B, hP⟩ := hP
  refine HC27 ?_
  unfold c27
  have hmx : hfold vMax2 (.lit (.int .i64 n)) [.lit (.int .i64 0)] = some (.lit (.int .i64 (max n 0))) := by
    simp only [hfold, vMax2, Option.bind_some]
    congr 3
    rw [Int.max_def]
    split <;> split <;> omega
  simp only [nep27, bindO, hcond, hmx, hvNil, hvFld]
  refine store1 (hl _ _ hP.at_) (by simp [dC]) (hc_bool _) (ho_bool _) rfl ?_
  refine store1 (set_at _ _ _) (by simp [dC]) (hc_int _ _) (ho_int _ _) rfl ?_
  rw [set_set]
  have hP' := hP.put (D.cutAt n) rfl rfl rfl rfl
  exact ⟨by trivial, _, hP'.ps, Turn.set hl hP.at_ _⟩
theorem ops22 (hP : PS h d D) (hl : HS.le h s) : HC Try.prog 22 [.ptr d 0] s (fun v t => t = s ∧ v = .lit (.int .i64 D.ops)) := by
  obtain ⟨tag, mn, ms, A, fid, B, hP⟩ := hP
  refine HC22 ?_
  unfold c22
  have ld1 := fun k => hP.ld hl k
  simp only [eqp27, bindO, hcond, hvNil, hvFld, ld1, dC, List.getElem?_cons_succ, List.getElem?_cons_zero]
  exact ⟨trivial, trivial⟩
/-- Bytes that are handed in, or read. -/
def BRow (h s : HS) (x : HV) (b : List Int) : Prop := (∃ f, x = .list 1 b.length (bl b) f) ∨ (x = nilV ∧ b = []) ∨ ∃ X f, x = .view X 0 1 b.length f ∧ s X = some (.cells (bl b)) ∧ h X = none
theorem BRow.turn {t h' : HS} {x : HV} {b : List Int} (hx : BRow h s x b) (hT : Turn s h t h') : BRow h' t x b := by
  rcases hx with hx | hx | ⟨X, f, h1, h2, h3⟩
  · exact .inl hx
  · exact .inr (.inl hx)
  · obtain ⟨k1, k2⟩ := hT.2 X _ h3 h2
    exact .inr (.inr ⟨X, f, h1, k1, k2⟩)
theorem BRow.len {x : HV} {b : List Int} (hx : BRow h s x b) (e : Nat) (u : HS) : vLenT (some (.slice e)) u x = some (.lit (.int .i64 b.length)) := by
  rcases hx with ⟨f, rfl⟩ | ⟨rfl, rfl⟩ | ⟨X, f, rfl, -⟩ <;> rfl
theorem BRow.llen {x : HV} {b : List Int} (hx : BRow h s x b) : H.llen x = b.length := by
  rcases hx with ⟨f, rfl⟩ | ⟨rfl, rfl⟩ | ⟨X, f, rfl, -⟩ <;> rfl
theorem BRow.cells {x : HV} {b : List Int} (hx : BRow h s x b) : lcells s 1 x = some (bl b) := by
  rcases hx with ⟨f, rfl⟩ | ⟨rfl, rfl⟩ | ⟨X, f, rfl, hX, -⟩
  · simp [lcells]
  · rfl
  · simp [lcells, hX, bl_len, List.take_of_length_le]
end
end Go.Proofs.Ythfoanmokcepcaa.DS
end
section
namespace Go.Proofs.Ythfoanmokcepcaa.DS
open Go.Proofs.Ythfoanmokcepcaa.H Go.Proofs.Ythfoanmokcepcaa.AS Go.Proofs.Ythfoanmokcepcaa.X0
set_option linter.unusedVariables false
set_option linter.unusedSimpArgs false
set_option maxRecDepth 100000
section
variable {s h : HS} {d K : Nat} {D : DK} {tag : Nat → Nat} {mn ms : Nat} {A : HV} {fid : Nat → Nat} {B : Nat → HV}
/-- Bytes behind a file's. -/
theorem appT (hP : PD h d D tag mn ms A fid B) (hl : HS.le h s) {i : Nat} (hi : i < D.files.length) {x : HV} {b : List Int} (hx : BRow h s x b) (hb : (D.files.getD i fl0).b.length ≤ 1000000) (hb2 : b.length ≤ 1000000) {Kk : HS → Prop}
    (hK : ∀ t h', PS h' d (D.setF i ⟨(D.files.getD i fl0).b ++ b, (D.files.getD i fl0).safe⟩) → Turn s h t h' → Kk t) : hAppend s 1 1 (B i) x (fun x30 s31 => hStore s31 (.ptr (fid i) 0) x30 1 Kk) := by
  obtain ⟨f1, f2⟩ := hP.file i hi
  obtain ⟨t1, t2⟩ := hP.ti i hi
  refine f2.app hl hx.cells hx.llen ⟨by omega, by omega⟩ ⟨by omega, by omega⟩ fun B' s1 h1 k1 k2 k3 k4 => ?_
  have g1 : h1 (fid i) = some (.cells [B i, .lit (.int .i64 (D.files.getD i fl0).safe)]) := k3 _ _ (fun e => (t2 _ e).2 rfl) f1
  have nB' : ∀ q, accId B' = some q → (h q = none ∨ tag q = i + 1) ∧ q ≠ fid i := fun q hq => by
    rcases k4 q hq with e | e
    · exact ⟨.inr (t2 q e).1, (t2 q e).2⟩
    · exact ⟨.inl (none_of_le hl e), fun e' => by have := hl _ _ f1; rw [← e', e] at this; cases this⟩
  refine store1 (k2.1 _ _ g1) (by simp) k1.hc k1.one rfl ?_
  obtain ⟨tag', B2, hfin⟩ := hP.reF (h3 := h1.set (fid i) (.cells [B', .lit (.int .i64 (D.files.getD i fl0).safe)])) hi (f := ⟨(D.files.getD i fl0).b ++ b, (D.files.getD i fl0).safe⟩) (Bi := B')
    (fun k ob hk ht => by
      rw [set_ne _ _ (fun e => ht (by rw [e]; exact t1))]
      exact k3 _ _ (fun e => ht (t2 k e).1) hk) (set_at _ _ _) (k1.keep fun q ob hq hob => by rw [set_ne _ _ (nB' q hq).2]; exact hob) nB'
  exact hK _ _ hfin.ps (k2.trans (Turn.set k2.1 g1 _))
theorem append13 (hP : PS h d D) (hl : HS.le h s) (hw : Wf K D) (hc : Ch D) (n : By) {x : HV} {b : List Int} (hx : BRow h s x b) (hb2 : b.length ≤ 1000000) (hk9 : K + 2 ≤ 1000000) :
    HC Try.prog 13 [.ptr d 0, strV n, x] s (fun v t => Did2 s h t d (D.append n b) v) := by
  obtain ⟨tag, mn, ms, A, fid, B, hP⟩ := hP
  refine HC13 ?_
  unfold c13
  refine hBS_lit (vs := strC n) rfl rfl rfl fun X hX => ?_
  have hle1 := le_set_new (.cells (strC n)) (le_refl' s) hX
  have hXs : (s.set X (.cells (strC n))) X = some (.cells (rows strC [n])) := set_at _ _ _
  have hT1 : Turn s h (s.set X (.cells (strC n))) h := Turn.junk hl hle1
  generalize s.set X (.cells (strC n)) = s1 at *
  refine (asked34 hP hT1.1 hw (ns := [n]) (.inr ⟨X, _, rfl, hXs, none_of_le hl hX⟩) (by simp)).mono ?_
  rintro _ t ⟨rfl, ht⟩
  have hT : Turn s h t (h.set d (.cells (dC D.ask mn ms A))) := by rw [ht]; exact hT1.trans (Turn.set hT1.1 hP.at_ _)
  clear ht hXs hT1 hle1
  have hP' := hP.ask
  have hw' := hw.ask (by omega)
  have hc' := hc.ask
  generalize h.set d (.cells (dC D.ask mn ms A)) = h1 at hT hP'
  obtain ⟨e1, e2, e3, e4, e5, e6⟩ := ask_same D
  have hus : D.ask.used = D.used := by unfold DK.used; rw [e1, e4]
  have hx1 := hx.turn hT
  have hbu := used_bd hw
  have hbu2 : (D.now.length : Int) * K ≤ 1000000 * 1000000 := by
    have h1 := hw.nw; have h2 := hw.k
    exact Int.mul_le_mul (by omega) (by omega) (by omega) (by omega)
  have hroom := hw.room
  unfold DK.append Did2
  simp only [bindO, neq28]
  by_cases he : D.err [n] = 0
  · simp only [he, decide_true, Bool.not_true, hcond, ne_eq, not_true, if_false]
    rw [show vLenT (Try.prog.underlying 22) t x = some (.lit (.int .i64 b.length)) from hx1.len _ _]
    have ld1 := fun k => hP'.ld hT.1 k
    simp only [hvNil, hvFld, ld1, dC, List.getElem?_cons_succ, List.getElem?_cons_zero]
    refine (used21 hP' hT.1 hw').mono ?_
    rintro _ t2 ⟨rfl, hle2⟩
    have hT2 := hT.trans (Turn.junk hT.1 hle2)
    have hx2 := hx.turn hT2
    have ld2 := fun k => hP'.ld hT2.1 k
    clear hT hle2
    rw [show vLenT (Try.prog.underlying 22) t2 x = some (.lit (.int .i64 b.length)) from hx2.len _ _]
    simp only [ld2, dC, List.getElem?_cons_succ, List.getElem?_cons_zero, true_and, hus]
    rw [show vBin .sub (.lit (.int .i64 D.ask.room)) (.lit (.int .i64 D.used)) = some (.lit (.int .i64 (D.room - D.used))) from by rw [e5]; exact sub_n (by omega) (by omega)]
    simp only [gtr_n]
    by_cases hfull : D.room - D.used < (b.length : Int)
    · simp only [hfull, decide_true, if_true]
      exact ⟨by trivial, h1, hP'.ps, hT2⟩
    · simp only [hfull, decide_false, if_false]
      have hm := hT2.1 _ _ hP'.now
      rw [e1] at hm
      simp only [hvNil, hvFld, ld2, dC, List.getElem?_cons_succ, List.getElem?_cons_zero, lookN hm]
      cases hk : look D.now n with
      | some i =>
        have hi := hw.look hk
        have hi' : i < D.ask.files.length := by rw [e4]; exact hi
        have hbi := (hw.at_ hi).1
        have hkk := hw.k
        refine Join.of (fun xs u => u = t2 ∧ xs = [.ptr (fid i) 0]) ?_ ?_
        · rintro _ u ⟨rfl, rfl⟩
          obtain ⟨f1, f2⟩ := hP'.file i hi'
          simp only [List.headD_cons, hvNil, hvFld, ld_at (hT2.1 _ _ f1), List.getElem?_cons_zero]
          refine appT hP' hT2.1 hi' hx2 (by rw [e4]; omega) hb2 fun t3 h3 k1 k2 => ?_
          rw [e4] at k1
          exact ⟨by trivial, h3, k1, hT2.trans k2⟩
        · intro K18 hK18
          simp only [eqp77]
          exact hK18 _ _ ⟨rfl, rfl⟩
      | none =>
        refine Join.of (fun xs u => ∃ F tag3 A3 B3 fid3 h3, xs = [.ptr F 0] ∧ fid3 D.files.length = F ∧ PD h3 d ({ D.ask with files := D.files ++ [fl0] }.name ⟨1, n, [], D.files.length⟩) tag3 mn ms A3 fid3 B3 ∧ Turn s h u h3) ?_ ?_
        · rintro _ u ⟨F, tag3, A3, B3, fid3, h3, rfl, rfl, k1, k2⟩
          have hi3 : D.files.length < ({ D.ask with files := D.files ++ [fl0] }.name ⟨1, n, [], D.files.length⟩ : DK).files.length := by show D.files.length < (D.files ++ [fl0]).length; simp
          have hgetn : ({ D.ask with files := D.files ++ [fl0] }.name ⟨1, n, [], D.files.length⟩ : DK).files.getD D.files.length fl0 = fl0 := by
            show (D.files ++ [fl0]).getD D.files.length fl0 = fl0
            rw [List.getD, List.getElem?_append_right (Nat.le_refl _), Nat.sub_self]; rfl
          obtain ⟨f1, f2⟩ := k1.file _ hi3
          simp only [List.headD_cons, hvNil, hvFld, ld_at (k2.1 _ _ f1), List.getElem?_cons_zero]
          refine appT k1 k2.1 hi3 (hx.turn k2) (by rw [hgetn]; decide) hb2 fun t4 h4 q1 q2 => ?_
          rw [hgetn] at q1
          exact ⟨by trivial, h4, q1, k2.trans q2⟩
        · intro K18 hK18
          simp only [nilP, eqn77]
          refine boxI (hc_agg _) fun F hF => ?_
          have hF1 : h1 F = none := none_of_le hT2.1 hF
          obtain ⟨tag3, B3, fid3, g1, g2, g3⟩ := hP'.newF hw'.sn hw'.ss hw'.nn hw'.ns (val_f hc'.val) hF1
          rw [e4] at g1 g2
          have hT3 := hT2.trans (Turn.new hT2.1 hF (.cells [nilV, .lit (.int .i64 0)]))
          rw [show vMk [(0, 1), (1, 1), (2, 1)] [.lit (.string .empty), .lit (.string .empty), .lit (.pointer none)] [(1, strV n), (2, .ptr F 0)] = some (.agg (acP fid3 ⟨1, n, [], D.files.length⟩)) from by rw [show acP fid3 ⟨1, n, [], D.files.length⟩ = [strV [], strV n, .ptr (fid3 D.files.length) 0] from rfl, g1]; rfl]
          simp only
          have hok : okN n = true := by simpa using (err_all he).2
          refine (name35 g2 hT3.1 (by show Srt D.ask.now; rw [e1]; exact hw.sn) (nf := D.files.length + 1) (.inl ⟨rfl, Nat.lt_succ_self _, hok⟩) (by show D.ask.acts.length ≤ _; rw [e3]; have := hw.na; have := hw.k; omega)).mono ?_
          rintro _ u ⟨rfl, A4, tag4, h4, q1, q2⟩
          exact hK18 _ _ ⟨F, tag4, A4, B3, fid3, h4, rfl, g1, q1, hT3.trans q2⟩
  · simp only [he, decide_false, Bool.not_false, hcond, ne_eq, not_false_iff, if_true]
    exact ⟨by trivial, h1, hP'.ps, hT⟩
theorem truncate24 (hP : PS h d D) (hl : HS.le h s) (hw : Wf K D) (n : By) (k : Int) (hk1 : -9223372036854775808 ≤ k ∧ k ≤ 9223372036854775807) :
    HC Try.prog 24 [.ptr d 0, strV n, .lit (.int .i64 k)] s (fun v t => Did2 s h t d (D.truncate n k) v) := by
  obtain ⟨tag, mn, ms, A, fid, B, hP⟩ := hP
  refine X1.HC24 ?_
  unfold X1.c24
  refine (has36 hP hl hw n (.inl ⟨rfl, rfl⟩) (by simp)).mono ?_
  rintro _ t ⟨rfl, hT⟩
  rw [List.nil_append]
  have hP' := hP.ask
  generalize h.set d (.cells (dC D.ask mn ms A)) = h1 at hT hP'
  obtain ⟨e1, e2, e3, e4, e5, e6⟩ := ask_same D
  have hkk := hw.k
  unfold hasV DK.truncate Did2
  by_cases he : D.err [n] = 0
  · simp only [he, ne_eq, not_true, if_false]
    cases hk : look D.now n with
    | none =>
      simp only [vExtract, List.getElem?_cons_succ, List.getElem?_cons_zero, bindO, neq28, hcond]
      refine JoinU.of (fun _ u => False) (fun _ _ hh => hh.elim) fun K5 hK5 => ?_
      exact ⟨by trivial, h1, hP'.ps, hT⟩
    | some i =>
      have hi := hw.look hk
      have hi' : i < D.ask.files.length := by rw [e4]; exact hi
      obtain ⟨f1, f2⟩ := hP'.file i hi'
      obtain ⟨t1, t2⟩ := hP'.ti i hi'
      rw [e4] at f1 f2
      have hf := hT.1 _ _ f1
      have hbi := (hw.at_ hi).1
      obtain ⟨fl, hfl⟩ : ∃ fl, D.files.getD i fl0 = fl := ⟨_, rfl⟩
      rw [hfl] at f1 f2 hf hbi
      simp only [hfl, vExtract, List.getElem?_cons_succ, List.getElem?_cons_zero, bindO, neq28, decide_true, Bool.not_true, hcond]
      by_cases hcut : k < 0 ∨ (fl.b.length : Int) < k
      · refine JoinU.of (fun _ u => False) (fun _ _ hh => hh.elim) fun K5 hK5 => ?_
        refine Join.of (fun xs u => u = t ∧ xs = [.lit (.bool true)]) ?_ ?_
        · rintro _ u ⟨rfl, rfl⟩
          simp only [List.headD_cons, hcut, if_true]
          exact ⟨by trivial, h1, hP'.ps, hT⟩
        · intro K9 hK9
          simp only [lss_n]
          by_cases h0 : k < 0
          · simp only [h0, decide_true]
            exact hK9 _ _ ⟨rfl, rfl⟩
          · simp only [h0, decide_false, hvNil, hvFld, ld_at hf, List.getElem?_cons_zero]
            rw [show vLenT (Try.prog.underlying 22) t (B i) = some (.lit (.int .i64 fl.b.length)) from f2.len _ _]
            simp only [gtr_n]
            exact hK9 _ _ ⟨rfl, by rw [decide_eq_true (hcut.resolve_left h0)]⟩
      · obtain ⟨j, rfl⟩ : ∃ j : Nat, k = (j : Int) := ⟨k.toNat, by omega⟩
        have hj : j ≤ fl.b.length := by omega
        simp only [hcut, if_false]
        refine JoinU.of (fun _ u => ∃ h2 Bl, u (fid i) = some (.cells [.list 1 fl.b.length (bl fl.b) Bl, .lit (.int .i64 fl.safe)]) ∧ Turn s h u h2 ∧ h2 (fid i) = u (fid i) ∧ ∀ k ob, h1 k = some ob → tag k ≠ i + 1 → h2 k = some ob) ?_ fun K5 hK5 => ?_
        · rintro _ u ⟨h2, Bl, k1, k2, k3, k4⟩
          rw [k1] at k3
          have hsl : vSliceX 1 (.list 1 fl.b.length (bl fl.b) Bl) none (some (.lit (.int .i64 (j : Int)))) (some (.lit (.int .i64 (j : Int)))) = some (.list 1 (fl.b.take j).length (bl (fl.b.take j)) true) := by
            have hm : min j fl.b.length = j := by omega
            have hbt : (bl fl.b).take j = bl (fl.b.take j) := by unfold bl; rw [List.map_take]
            simp [vSliceX, vSlice, cutAt, intAt, hj, hbt, hm]
          simp only [hvNil, hvFld, ld_at k1, List.getElem?_cons_zero, hsl]
          refine store1 k1 (by simp) (hc_list _ _ _ _) (ho_list _ _ _ _) rfl ?_
          refine store1 (set_at _ _ _) (by simp) (hc_int _ _) (ho_int _ _) rfl ?_
          rw [set_set]
          obtain ⟨tag', B', hfin⟩ := hP'.reF (h3 := h2.set (fid i) (.cells [.list 1 (fl.b.take j).length (bl (fl.b.take j)) true, .lit (.int .i64 (j : Int))])) (i := i) hi' (f := ⟨fl.b.take j, j⟩) (Bi := .list 1 (fl.b.take j).length (bl (fl.b.take j)) true)
            (fun k ob hk2 ht => by rw [set_ne _ _ (fun e => ht (by rw [e]; exact t1))]; exact k4 k ob hk2 ht) (set_at _ _ _) (.inr (.inr rfl)) (fun q hq => by cases hq)
          refine ⟨by trivial, _, ?_, k2.trans (Turn.set k2.1 k3 _)⟩
          have := hfin.ps
          rw [show ((j : Int).toNat) = j from rfl]
          exact this
        · refine Join.of (fun xs u => u = t ∧ xs = [.lit (.bool false)]) ?_ ?_
          · rintro _ u ⟨rfl, rfl⟩
            simp only [List.headD_cons]
            rcases f2 with ⟨hB, hb0⟩ | ⟨q, f, hB, hq⟩ | hB
            · refine hK5 [] u [] (u.set (fid i) (.cells [.list 1 fl.b.length (bl fl.b) false, .lit (.int .i64 fl.safe)])) ?_ ⟨_, false, set_at _ _ _, hT.trans (Turn.set hT.1 f1 _), by rw [set_at, set_at], fun k ob hk2 ht => by rw [set_ne _ _ (fun e => ht (by rw [e]; exact t1))]; exact hk2⟩
              refine UpL.re [] hf fun m l w ho => ?_
              rw [hB] at ho
              obtain ⟨h0, c, ty, fr, g1, g2, g3, g4, g5⟩ := ho
              refine ⟨fun y hy => ?_, c, ty, fr, g1, g2, g3, g4, fun j' x hj' => ?_⟩
              · simp only [List.mem_cons, List.not_mem_nil, or_false] at hy
                rcases hy with rfl | rfl <;> rfl
              · rcases j' with _ | j'
                · simp at hj'
                  subst hj'
                  have := g5 0 _ rfl
                  generalize c.getD (l.base + 0) undef = cv at this ⊢
                  cases this with
                  | lit v => rw [hb0]; exact .list0 _ _ _ _ (fun h => by cases h)
                · exact g5 (j' + 1) x hj'
            · have hq' := hT.1 _ _ hq
              have hqf : q ≠ fid i := (t2 q (by rw [hB]; rfl)).2
              have hqt : tag q = i + 1 := (t2 q (by rw [hB]; rfl)).1
              refine hK5 [] u [] ((u.del q).set (fid i) (.cells [.list 1 fl.b.length (bl fl.b) false, .lit (.int .i64 fl.safe)])) ?_ ⟨(h1.del q).set (fid i) _, false, set_at _ _ _, (hT.trans (Turn.del hT.1 hq)).trans (Turn.set (Turn.del hT.1 hq).1 (by rw [del_ne _ (Ne.symm hqf)]; exact f1) _), by rw [set_at, set_at], fun k ob hk2 ht => by rw [set_ne _ _ (fun e => ht (by rw [e]; exact t1)), del_ne _ (fun e => ht (by rw [e]; exact hqt))]; exact hk2⟩
              refine UpL.frzG hq' fun k o hk2 => ?_
              by_cases e : k = fid i
              · subst e
                rw [set_at] at hk2
                cases hk2
                refine ⟨Ne.symm hqf, _, hf, .inr ?_⟩
                have h9 : (bl fl.b).take (fl.b.length * 1) = bl fl.b := List.take_of_length_le (by rw [bl_len]; omega)
                simp [frzO, frz0, phi, hB, bl_len, h9, List.take_of_length_le]
              · rw [set_ne _ _ e] at hk2
                by_cases e9 : k = q
                · subst e9; rw [del_at] at hk2; cases hk2
                · rw [del_ne _ e9] at hk2
                  exact ⟨e9, o, hk2, .inl rfl⟩
            · refine hK5 [] u [] u (UpL.refl _ _) ⟨h1, true, by rw [hf, hB], hT, by rw [hf, f1], fun k ob hk2 _ => hk2⟩
          · intro K9 hK9
            have h0 : ¬ ((j : Int) < 0) := by omega
            simp only [lss_n, h0, decide_false, hvNil, hvFld, ld_at hf, List.getElem?_cons_zero]
            rw [show vLenT (Try.prog.underlying 22) t (B i) = some (.lit (.int .i64 fl.b.length)) from f2.len _ _]
            simp only [gtr_n]
            exact hK9 _ _ ⟨rfl, by rw [decide_eq_false (by omega)]⟩
  · simp only [he, ne_eq, not_false_iff, if_true, vExtract, List.getElem?_cons_succ, List.getElem?_cons_zero, bindO, neq28, decide_false, Bool.not_false, hcond]
    refine JoinU.of (fun _ u => False) (fun _ _ hh => hh.elim) fun K5 hK5 => ?_
    exact ⟨by trivial, h1, hP'.ps, hT⟩
end
end Go.Proofs.Ythfoanmokcepcaa.DS
end
section
namespace Go.Proofs
open Go.Shelf
def Try.keys63_ren : Go.Shelf.Ren := ⟨fun | 7 => 41 | 10 => 60 | n => n, fun | 23 => 72 | 26 => 9 | 3 => 77 | 28 => 91 | 0 => 0 | 27 => 90 | 33 => 109 | 4 => 4 | n => n, fun | n => n⟩
theorem Try.keys63 : Go.Proofs.SlLaysZ.n7 Try.prog Try.keys63_ren := {
  mixed := by kernel_rfl
  f7 := ⟨Try.f41.name, by decide, Try.func41.trans (congrArg some (by kernel_rfl))⟩
  f10 := ⟨Try.f60.name, by decide, Try.func60.trans (congrArg some (by kernel_rfl))⟩
  t0 := Try.underlying0
  a0 := Try.isAgg0
  z0 := Try.sizeOf0
  v0 := Try.zeroValue0
  t4 := Try.underlying4
  a4 := Try.isAgg4
  z4 := Try.sizeOf4
  v4 := Try.zeroValue4
  t23 := Try.underlying72
  a23 := Try.isAgg72
  z23 := Try.sizeOf72
  v23 := Try.zeroValue72
  t26 := Try.underlying9
  a26 := Try.isAgg9
  z26 := Try.sizeOf9
  v26 := Try.zeroValue9
  t27 := Try.underlying90
  a27 := Try.isAgg90
  z27 := Try.sizeOf90
  v27 := Try.zeroValue90
  t28 := Try.underlying91
  a28 := Try.isAgg91
  z28 := Try.sizeOf91
  v28 := Try.zeroValue91
  t33 := Try.underlying109
  a33 := Try.isAgg109
  z33 := Try.sizeOf109
  v33 := Try.zeroValue109 }
def Try.sorted62_ren : Go.Shelf.Ren := ⟨fun | 6 => 40 | 8 => 58 | 9 => 59 | 11 => 67 | 13 => 69 | 12 => 68 | 23 => 79 | 24 => 80 | 14 => 70 | 15 => 71 | 16 => 72 | 17 => 73 | 18 => 74 | 19 => 75 | 20 => 76 | 21 => 77 | 22 => 78 | 25 => 81 | 26 => 82 | 27 => 83 | 28 => 84 | 29 => 85 | 30 => 86 | 31 => 87 | n => n, fun | 26 => 9 | 28 => 91 | 24 => 41 | 0 => 0 | 3 => 3 | 37 => 121 | 48 => 132 | 50 => 134 | 4 => 4 | 40 => 124 | 39 => 123 | 45 => 129 | 5 => 5 | 9 => 9 | 51 => 135 | 55 => 139 | 57 => 141 | 58 => 56 | 33 => 109 | n => n, fun | n => n⟩
theorem Try.sorted62 : Go.Proofs.SlLaysZ.n6 Try.prog Try.sorted62_ren := {
  mixed := by kernel_rfl
  f6 := ⟨Try.f40.name, by decide, Try.func40.trans (congrArg some (by kernel_rfl))⟩
  f8 := ⟨Try.f58.name, by decide, Try.func58.trans (congrArg some (by kernel_rfl))⟩
  f11 := ⟨Try.f67.name, by decide, Try.func67.trans (congrArg some (by kernel_rfl))⟩
  t0 := Try.underlying0
  a0 := Try.isAgg0
  z0 := Try.sizeOf0
  v0 := Try.zeroValue0
  t24 := Try.underlying41
  a24 := Try.isAgg41
  z24 := Try.sizeOf41
  v24 := Try.zeroValue41
  t26 := Try.underlying9
  a26 := Try.isAgg9
  z26 := Try.sizeOf9
  v26 := Try.zeroValue9
  t28 := Try.underlying91
  a28 := Try.isAgg91
  z28 := Try.sizeOf91
  v28 := Try.zeroValue91
  i26 := by kernel_rfl }
def Try.sort74_ren : Go.Shelf.Ren := ⟨fun | 6 => 59 | 8 => 69 | 9 => 68 | 19 => 79 | 20 => 80 | 21 => 70 | 22 => 71 | 23 => 72 | 24 => 73 | 25 => 74 | 26 => 75 | 27 => 76 | 28 => 77 | 29 => 78 | 36 => 81 | 31 => 82 | 32 => 83 | 37 => 84 | 38 => 85 | 39 => 86 | 41 => 87 | n => n, fun | 27 => 41 | 29 => 9 | 3 => 3 | 32 => 121 | 26 => 41 | 0 => 0 | 44 => 132 | 46 => 134 | 4 => 4 | 36 => 124 | 35 => 123 | 41 => 129 | 5 => 5 | 9 => 9 | 53 => 135 | 57 => 139 | 63 => 141 | 64 => 56 | n => n, fun | n => n⟩
theorem Try.sort74 : Go.Proofs.SlLaysM.n6 Try.prog Try.sort74_ren := {
  mixed := by kernel_rfl
  f6 := ⟨Try.f59.name, by decide, Try.func59.trans (congrArg some (by kernel_rfl))⟩
  f8 := Try.func69.trans (congrArg some (by kernel_rfl))
  f9 := ⟨Try.f68.name, by decide, Try.func68.trans (congrArg some (by kernel_rfl))⟩
  f19 := Try.func79.trans (congrArg some (by kernel_rfl))
  f20 := Try.func80.trans (congrArg some (by kernel_rfl))
  f21 := ⟨Try.f70.name, by decide, Try.func70.trans (congrArg some (by kernel_rfl))⟩
  f22 := ⟨Try.f71.name, by decide, Try.func71.trans (congrArg some (by kernel_rfl))⟩
  f23 := ⟨Try.f72.name, by decide, Try.func72.trans (congrArg some (by kernel_rfl))⟩
  f24 := ⟨Try.f73.name, by decide, Try.func73.trans (congrArg some (by kernel_rfl))⟩
  f25 := ⟨Try.f74.name, by decide, Try.func74.trans (congrArg some (by kernel_rfl))⟩
  f26 := ⟨Try.f75.name, by decide, Try.func75.trans (congrArg some (by kernel_rfl))⟩
  f27 := ⟨Try.f76.name, by decide, Try.func76.trans (congrArg some (by kernel_rfl))⟩
  f28 := ⟨Try.f77.name, by decide, Try.func77.trans (congrArg some (by kernel_rfl))⟩
  f29 := ⟨Try.f78.name, by decide, Try.func78.trans (congrArg some (by kernel_rfl))⟩
  f31 := Try.func82.trans (congrArg some (by kernel_rfl))
  f32 := Try.func83.trans (congrArg some (by kernel_rfl))
  f36 := ⟨Try.f81.name, by decide, Try.func81.trans (congrArg some (by kernel_rfl))⟩
  f37 := ⟨Try.f84.name, by decide, Try.func84.trans (congrArg some (by kernel_rfl))⟩
  f38 := ⟨Try.f85.name, by decide, Try.func85.trans (congrArg some (by kernel_rfl))⟩
  f39 := ⟨Try.f86.name, by decide, Try.func86.trans (congrArg some (by kernel_rfl))⟩
  f41 := ⟨Try.f87.name, by decide, Try.func87.trans (congrArg some (by kernel_rfl))⟩
  t0 := Try.underlying0
  a0 := Try.isAgg0
  z0 := Try.sizeOf0
  v0 := Try.zeroValue0
  t3 := Try.underlying3
  a3 := Try.isAgg3
  z3 := Try.sizeOf3
  v3 := Try.zeroValue3
  t4 := Try.underlying4
  a4 := Try.isAgg4
  z4 := Try.sizeOf4
  v4 := Try.zeroValue4
  t5 := Try.underlying5
  a5 := Try.isAgg5
  z5 := Try.sizeOf5
  v5 := Try.zeroValue5
  t9 := Try.underlying9
  a9 := Try.isAgg9
  z9 := Try.sizeOf9
  v9 := Try.zeroValue9
  t26 := Try.underlying41
  a26 := Try.isAgg41
  z26 := Try.sizeOf41
  v26 := Try.zeroValue41
  t27 := Try.underlying41
  a27 := Try.isAgg41
  z27 := Try.sizeOf41
  v27 := Try.zeroValue41
  t29 := Try.underlying9
  a29 := Try.isAgg9
  z29 := Try.sizeOf9
  v29 := Try.zeroValue9
  t32 := Try.underlying121
  a32 := Try.isAgg121
  z32 := Try.sizeOf121
  v32 := Try.zeroValue121
  t35 := Try.underlying123
  a35 := Try.isAgg123
  z35 := Try.sizeOf123
  v35 := Try.zeroValue123
  t36 := Try.underlying124
  a36 := Try.isAgg124
  z36 := Try.sizeOf124
  v36 := Try.zeroValue124
  t41 := Try.underlying129
  a41 := Try.isAgg129
  z41 := Try.sizeOf129
  v41 := Try.zeroValue129
  t44 := Try.underlying132
  a44 := Try.isAgg132
  z44 := Try.sizeOf132
  v44 := Try.zeroValue132
  t46 := Try.underlying134
  a46 := Try.isAgg134
  z46 := Try.sizeOf134
  v46 := Try.zeroValue134
  t53 := Try.underlying135
  a53 := Try.isAgg135
  z53 := Try.sizeOf135
  v53 := Try.zeroValue135
  t57 := Try.underlying139
  a57 := Try.isAgg139
  z57 := Try.sizeOf139
  v57 := Try.zeroValue139
  t63 := Try.underlying141
  a63 := Try.isAgg141
  z63 := Try.sizeOf141
  v63 := Try.zeroValue141
  t64 := Try.underlying56
  a64 := Try.isAgg56
  z64 := Try.sizeOf56
  v64 := Try.zeroValue56 }
def Try.clone37_ren : Go.Shelf.Ren := ⟨fun | 5 => 37 | 7 => 57 | n => n, fun | 23 => 72 | 25 => 9 | 3 => 77 | 4 => 4 | 20 => 20 | n => n, fun | n => n⟩
theorem Try.clone37 : Go.Proofs.SlLaysW.n5 Try.prog Try.clone37_ren := {
  mixed := by kernel_rfl
  f5 := ⟨Try.f37.name, by decide, Try.func37.trans (congrArg some (by kernel_rfl))⟩
  f7 := Try.func57.trans (congrArg some (by kernel_rfl))
  t4 := Try.underlying4
  a4 := Try.isAgg4
  z4 := Try.sizeOf4
  v4 := Try.zeroValue4
  t20 := Try.underlying20
  a20 := Try.isAgg20
  z20 := Try.sizeOf20
  v20 := Try.zeroValue20
  t23 := Try.underlying72
  a23 := Try.isAgg72
  z23 := Try.sizeOf72
  v23 := Try.zeroValue72 }
end Go.Proofs
end
section
namespace Go.Proofs.Ythfoanmokcepcaa.CL
open Go.RowKit Go.Maps Go.Sort Go.Shelf Go.MapKept Go.Proofs.Ythfoanmokcepcaa.H
set_option linter.unusedVariables false
set_option linter.unusedSimpArgs false
set_option maxRecDepth 100000
variable {s : HS}
theorem sorts62 (m : Nat) : AnyZ.SortsIn Try.prog Try.sorted62_ren Fence.wide m :=
  ⟨fun blk off cap ss W hH hblk hsz => callsIn_wide.2 (AnyM.slices_Sort_string Try.sort74 blk off cap ss W hH hblk hsz),
   fun p cap W => callsIn_wide.2 (AnyM.slices_Sort_string_none Try.sort74 p cap W)⟩
set_option maxHeartbeats 1000000 in
theorem sorted62_in {H : Type} (Bm b nn : Nat) (D0 : DataW H) (R : Value → Option (DataW H × List MemPlace)) (w : World) (hm : w.cell? ⟨Bm, 0, none⟩ = some (.map (some b))) (hown : w.ownsMap Try.prog 9 R b nn D0) (hmax : Maps.size D0 ≤ maxLen) (hbytes : Maps.size D0 * 16 ≤ 140737488355328) :
    CallsIn Fence.wide 5 Try.prog 40 #[.func (.func 60) #[] #[.pointer (some ⟨Bm, 0, none⟩)]] w fun e w' => ∃ (v : Value) (ss : List (List UInt8)), e = .returned v ∧ ss.Perm (strKeys D0) ∧
      w'.ownsRow w.heap.size 9 1 v ss.length ((ss.mergeSort (fun x y => decide (x ≤ y))).map encStr) ∧ (v = .slice none 0 0 ↔ ss = []) ∧ Below w.heap.size w w' := by
  have hseq : SeqGives Fence.wide 2 Try.prog 60 #[.pointer (some ⟨Bm, 0, none⟩)] encStr (fun ss => ss.Perm (strKeys D0)) (Maps.size D0) w :=
    AnyZ.keys_gives (ρ := Try.keys63_ren) { Try.keys63 with } Fence.wide _ trivial rfl (by omega) Bm b nn D0 _ (cell_lt hm) hm hown
  exact AnyZ.sorted_in Try.sorted62 Fence.wide 5 trivial trivial trivial trivial rfl (by omega) (sorts62 _) (enters_of Try.func59 (by kernel_rfl) rfl) 60 #[.pointer (some ⟨Bm, 0, none⟩)] trivial (enters_of Try.func60 (by kernel_rfl) rfl) _ _ hmax hbytes _ hseq
theorem rel_grown {m : M} {w w' : World} (h : Rel m s w) (hb : Below w.heap.size w w') : Rel m s w' := by
  refine ⟨⟨hb.os.trans h.below.os, hb.tape.trans h.below.tape, hb.output.trans h.below.output, fun k hk => ⟨Nat.lt_of_lt_of_le (h.below.block k hk).1 hb.size, (hb.block k (h.below.block k hk).1).trans (h.below.block k hk).2⟩⟩, ?_, ?_, h.own, h.inj, h.fin⟩
  · intro b o v hc
    have := h.com b o v hc
    exact (cell_block (hb.block b (cell_lt this))).trans this
  · intro id ob l hi hl
    have := h.objs id ob l hi hl
    exact this.of_block (hb.block _ this.lt)
def strsV (ks : List (List UInt8)) : HV := if ks = [] then nilV else .list 1 ks.length (ks.map fun x => .lit (encStr x)) false
theorem keys63 (mid : Nat) : HC Try.prog 41 [.map mid] s (fun v s' => ∃ q, s q = none ∧ v = .func (.func 60) [.ptr q 0] ∧ s' = s.set q (.root [.map mid])) := by
  intro m w cargs hR hn ha
  have h0 := ha 0 _ rfl
  obtain ⟨a0, rfl⟩ : ∃ a0, cargs = #[a0] := by
    match cargs, hn with
    | ⟨[a]⟩, _ => exact ⟨a, rfl⟩
  have h0' : Rep m (.map mid) a0 := h0
  cases h0' with
  | map _ l hl =>
  refine (callsIn_wide.1 (AnyZ.keys_in Try.keys63 Fence.wide 5 trivial rfl (some l.b) w)).mono ?_
  rintro e w' ⟨rfl, rfl⟩
  obtain ⟨N, hN1, hN2, hN3, hnew⟩ := hR.new (.cells #[.map (some l.b)] _) 1
  have hne : N ≠ mid := by rintro rfl; rw [hN2] at hl; cases hl
  obtain ⟨g1, g2⟩ := hnew (.root [.map mid]) ⟨rfl, _, _, _, World.alloc_heap_new w _, by simp, fun j x hj => by
    cases j with
    | zero =>
      simp at hj; subst hj
      exact .map mid l (by simp only [if_neg (Ne.symm hne)]; exact hl)
    | succ j => simp at hj⟩
  refine ⟨_, _, _, _, rfl, g1, g2, Rep.func _ _ _ rfl (fun j x hj => ?_), N, hN1, rfl, rfl⟩
  cases j with
  | zero =>
    simp at hj; subst hj
    exact Rep.ptr N 0 ⟨w.heap.size, 0, 1⟩ (if_pos rfl)
  | succ j => simp at hj
theorem strKeys_mem {es : List (Lit × DataW Unit)} {x : List UInt8} : x ∈ strKeys (.map es) ↔ ∃ p ∈ es, strOf p.1 = x := by simp [strKeys]
theorem sorted62 {q mid n : Nat} {f : Value → Option HV} (hq : s q = some (.root [.map mid])) (hm : s mid = some (.map .string f n)) (hk : ∀ k x, f k = some x → ∃ b : ByteArray, k = .string b ∧ b.size ≤ 140737488355328) (hn : n * 16 ≤ 140737488355328) :
    HC Try.prog 40 [.func (.func 60) [.ptr q 0]] s (fun v s' => ∃ ks : List (List UInt8), ks.Pairwise (fun x y => x ≤ y) ∧ ks.Nodup ∧ (∀ x, x ∈ ks ↔ (f (encStr x)).isSome = true) ∧ ks.length = n ∧ v = strsV ks ∧ s' = s) := by
  intro m w cargs hR hna ha
  have h0 := ha 0 _ rfl
  obtain ⟨a0, rfl⟩ : ∃ a0, cargs = #[a0] := by
    match cargs, hna with
    | ⟨[a]⟩, _ => exact ⟨a, rfl⟩
  have h0' : Rep m (.func (.func 60) [.ptr q 0]) a0 := h0
  cases h0' with
  | func _ _ vs hs hr =>
  obtain ⟨p0, rfl⟩ : ∃ p0, vs = #[p0] := by
    match vs, hs with
    | ⟨[a]⟩, _ => exact ⟨a, rfl⟩
  have hp : Rep m (.ptr q 0) p0 := hr 0 _ rfl
  cases hp with
  | ptr _ _ l hl =>
  obtain ⟨hb0, c, ct, cf, hc1, hc2, hc3⟩ := hR.objs q _ l hq hl
  have hmp : Rep m (.map mid) (c.getD 0 undef) := hc3 0 _ rfl
  have hcell : w.cell? ⟨l.b, 0, none⟩ = some (c.getD 0 undef) := by
    simp only [World.cell?, hc1]
    have : 0 < c.size := hc2
    simp [Array.getD, this]
  generalize c.getD 0 undef = cm at hmp hcell
  cases hmp with
  | map _ l2 hl2 =>
  obtain ⟨es, clock, hh, hes, hst, hik, hf1, hf2⟩ := hR.objs mid _ l2 hm hl2
  have hkey : ∀ e ∈ es.toList, ∃ b : ByteArray, e.key = .string b ∧ b.size ≤ 140737488355328 := fun e he => by
    obtain ⟨x, hx⟩ := Option.isSome_iff_exists.1 (hf2 e he)
    exact hk _ _ hx
  have hrd : ∀ e ∈ es.toList, ∀ b : ByteArray, e.key = .string b → WideElems.rd (H := Unit) Try.prog 9 (fun _ => some (.nil, [])) e = some (.string b.data.toList, .nil) := fun e he b hb => by
    obtain ⟨b', h1, h2⟩ := hkey e he
    rw [hb] at h1
    cases h1
    simp only [WideElems.rd, keyOf, Try.underlying9, mapKey, hb]
    rw [if_pos (by unfold maxLen; omega)]
    rfl
  obtain ⟨D0, hD0⟩ : ∃ D0 : List (Lit × DataW Unit), D0 = (es.toList.map (WideElems.rg Try.prog 9 fun _ => some (.nil, []))).foldr DataW.insert [] := ⟨_, rfl⟩
  have hown : w.ownsMap Try.prog 9 (fun _ => some ((.nil : DataW Unit), [])) l2.b es.size (.map D0) := by
    refine ⟨es, clock, hh, ⟨by unfold maxLen; omega, hst, fun e he => ?_⟩, Nat.le_refl _, by rw [hD0]⟩
    obtain ⟨b, h1, -⟩ := hkey e he
    exact ⟨_, hrd e he b h1⟩
  have hsz : Maps.size (.map D0 : DataW Unit) = n := by
    rw [Maps.size_eq, hD0, length_sorted, List.length_map]
    simpa using hes
  have hmem : ∀ x, x ∈ strKeys (.map D0 : DataW Unit) ↔ (f (encStr x)).isSome = true := fun x => by
    rw [strKeys_mem, hD0]
    constructor
    · rintro ⟨p, hp, rfl⟩
      rw [mem_sorted] at hp
      obtain ⟨e, he, rfl⟩ := List.mem_map.1 hp
      obtain ⟨b, h1, -⟩ := hkey e he
      rw [WideElems.rg_of (hrd e he b h1)]
      have := hf2 e he
      rw [h1] at this
      simpa [strOf, encStr] using this
    · intro hx
      obtain ⟨y, hy⟩ := Option.isSome_iff_exists.1 hx
      obtain ⟨e, he, h1, -⟩ := hf1 _ _ hy
      refine ⟨WideElems.rg Try.prog 9 (fun _ => some (.nil, [])) e, mem_sorted.2 (List.mem_map.2 ⟨e, he, rfl⟩), ?_⟩
      rw [WideElems.rg_of (hrd e he ⟨x.toArray⟩ (by rw [h1]))]
      simp [strOf]
  have hb0' : l.base + 0 = 0 := by rw [hb0]
  rw [hb0']
  refine (callsIn_wide.1 (sorted62_in l.b l2.b es.size _ _ w hcell hown (by rw [hsz]; unfold maxLen; omega) (by rw [hsz]; exact hn))).mono ?_
  rintro e w' ⟨v, ss, rfl, hperm, hrow, hnil, hbel⟩
  have hnd : (strKeys (.map D0 : DataW Unit)).Nodup := by
    obtain ⟨es', e1, e2, -⟩ := hown.entries (string_keyed Try.underlying9)
    cases e1
    have hst : ∀ p ∈ D0, ∃ x, p.1 = .string x := fun p hp => by
      rw [hD0] at hp
      obtain ⟨e, he, rfl⟩ := List.mem_map.1 (mem_sorted.1 hp)
      obtain ⟨b, h1, -⟩ := hkey e he
      rw [WideElems.rg_of (hrd e he b h1)]
      exact ⟨_, rfl⟩
    unfold strKeys List.Nodup
    rw [List.pairwise_map]
    refine List.Pairwise.imp_of_mem ?_ e2
    intro p r hp hr hne he
    obtain ⟨x, hx⟩ := hst p hp
    obtain ⟨y, hy⟩ := hst r hr
    rw [hx, hy] at he hne
    simp only [strOf] at he
    rw [he] at hne
    exact hne rfl
  obtain ⟨ks, hks⟩ : ∃ ks, ks = ss.mergeSort (fun x y => decide (x ≤ y)) := ⟨_, rfl⟩
  rw [← hks] at hrow
  have hperm2 : ks.Perm ss := by rw [hks]; exact List.mergeSort_perm ss _
  have hlen : ks.length = n := by
    rw [(hperm2.trans hperm).length_eq]
    have := hsz
    rw [Maps.size_eq] at this
    simpa [strKeys] using this
  have hsorted : ks.Pairwise (fun x y => x ≤ y) := by
    rw [hks]
    have := List.pairwise_mergeSort (le := fun x y : List UInt8 => decide (x ≤ y)) (fun a b c h1 h2 => by simp only [decide_eq_true_eq] at *; exact List.le_trans h1 h2) (fun a b => by simp only [Bool.or_eq_true, decide_eq_true_eq]; exact List.le_total a b) ss
    exact this.imp fun h => by simpa using h
  have hnd2 : ks.Nodup := (hperm2.trans hperm).nodup_iff.2 hnd
  have hR1 : Rel m s w' := rel_grown hR hbel
  have hssl : ss.length = ks.length := hperm2.length_eq.symm
  rw [hssl] at hrow
  obtain ⟨hr1, hrow⟩ := hrow
  by_cases hnl : ks = []
  · have hv : v = .slice none 0 0 := hnil.2 (by rw [hnl] at hperm2; exact hperm2.symm.eq_nil)
    refine ⟨_, _, s, m, rfl, M.le.refl m, hR1, ?_, ks, hsorted, hnd2, fun x => (hperm2.trans hperm).mem_iff.trans (hmem x), hlen, rfl, rfl⟩
    rw [hv, strsV, if_pos hnl]; exact .lit _
  · rcases hrow with ⟨hv, h0⟩ | ⟨g, cap, cur, hv, hg, hh', hcap, hmx, hcs, htk⟩
    · exact absurd (List.eq_nil_of_length_eq_zero h0) hnl
    · have hg1 : ∀ o v, m.com g o = some v → False := fun o v hc => by
        have := cell_lt (hR.com g o v hc)
        omega
      have hle : M.le m { m with com := fun b o => if b = g then cur[o]? else m.com b o } := by
        refine M.le.mk' rfl rfl (fun b o v hvv => ?_) (fun _ _ h => h) rfl (fun _ _ => rfl)
        show (if b = g then cur[o]? else m.com b o) = some v
        rw [if_neg (fun e => hg1 o v (by rw [← e]; exact hvv))]
        exact hvv
      refine ⟨_, _, s, _, rfl, hle, ⟨hR1.below, fun b o v hvv => ?_, fun id ob l hi hl => (hR1.objs id ob l hi hl).mono hle, fun id ob l hi hl => ⟨(hR1.own id ob l hi hl).1, fun o => ?_⟩, hR1.inj, hR1.fin⟩, ?_, ks, hsorted, hnd2, fun x => (hperm2.trans hperm).mem_iff.trans (hmem x), hlen, rfl, rfl⟩
      · simp only at hvv
        split at hvv
        · rename_i e
          rw [e]
          simp only [World.cell?, hh']
          simpa using hvv
        · exact hR1.com b o v hvv
      · show (if l.b = g then cur[o]? else m.com l.b o) = none
        have := (hR.objs id ob l hi hl).lt
        rw [if_neg (by omega)]
        exact (hR1.own id ob l hi hl).2 o
      · rw [hv, strsV, if_neg hnl]
        have hcur : ∀ j, j < ks.length → cur[j]? = (ks.map encStr)[j]? := fun j hj => by
          rw [← htk, List.getElem?_take, if_pos (by omega)]
          simp
        refine .list 1 ks.length _ false cap g 0 (fun j => cur.getD j undef) hcap (fun h => by cases h) (by simp) (fun x hx => ?_) (fun j hj => ?_) (fun j x hj => ?_)
        · obtain ⟨y, -, rfl⟩ := List.mem_map.1 hx
          rfl
        · have hj' : j < ks.length := by simpa using hj
          show (if g = g then cur[0 + j]? else _) = _
          rw [if_pos rfl, Nat.zero_add]
          have hlt : j < cur.size := by omega
          simp [Array.getD, hlt]
        · rw [List.getElem?_map] at hj
          cases hkj : ks[j]? with
          | none => rw [hkj] at hj; cases hj
          | some y =>
            rw [hkj] at hj
            cases hj
            have hj' : j < ks.length := (List.getElem?_eq_some_iff.1 hkj).1
            have h1 := hcur j hj'
            rw [List.getElem?_map, hkj] at h1
            simp only [Array.getD_eq_getD_getElem?, h1]
            exact .lit _
end Go.Proofs.Ythfoanmokcepcaa.CL
end
section
namespace Go.Proofs.Ythfoanmokcepcaa.DS
open Go.Proofs.Ythfoanmokcepcaa.H Go.Proofs.Ythfoanmokcepcaa.AS Go.Proofs.Ythfoanmokcepcaa.X0 Go.RowKit Go.MapKept
set_option linter.unusedVariables false
set_option linter.unusedSimpArgs false
set_option maxRecDepth 100000
section
variable {s h : HS} {d K : Nat} {D : DK} {tag : Nat → Nat} {mn ms : Nat} {A : HV} {fid : Nat → Nat} {B : Nat → HV}
/-- A copy of a map. -/
theorem clone37 {id n : Nat} {dd : TypeDesc} {f : Value → Option HV} (hs : s id = some (.map dd f n)) : HC Try.prog 37 [.map id] s (fun v t => ∃ q, s q = none ∧ v = .map q ∧ t = s.set q (.map dd f n)) := by
  intro m w cargs hR hn ha
  have h0 := ha 0 _ rfl
  obtain ⟨a0, rfl⟩ : ∃ a0, cargs = #[a0] := by
    match cargs, hn with
    | ⟨[a]⟩, _ => exact ⟨a, rfl⟩
  have h0' : Rep m (.map id) a0 := h0
  cases h0' with
  | map _ l hl =>
  obtain ⟨es, cl, g1, g2, g3, g4, g5, g6⟩ := hR.objs _ _ _ hs hl
  refine (AnyW.maps_Clone Try.clone37 l.b es cl w g1).mono ?_
  rintro e w' ⟨rfl, rfl⟩
  obtain ⟨N, hN1, hN2, hN3, hnew⟩ := hR.new (.map es cl) 0
  have hx : M.ex m { m with loc := fun k => if k = N then some ⟨w.heap.size, 0, 0⟩ else m.loc k } := ⟨fun _ _ _ h => h, fun i l hl => by
    show (if i = N then _ else m.loc i) = some l
    rw [if_neg (fun e => by rw [e, hN2] at hl; cases hl)]
    exact hl⟩
  obtain ⟨k1, k2⟩ := hnew (.map dd f n) ⟨es, cl, (MapKept.heap_alloc w _).1, g2, g3, g4, fun k x hk => (g5 k x hk).imp fun e he => ⟨he.1, he.2.1, he.2.2.ex hx⟩, g6⟩
  exact ⟨_, _, _, _, rfl, k1, k2, .map N ⟨w.heap.size, 0, 0⟩ (by simp), N, hN1, rfl, rfl⟩
theorem size19 (hP : PS h d D) (hl : HS.le h s) (hw : Wf K D) (n : By) : HC Try.prog 19 [.ptr d 0, strV n] s (fun v t => t = s ∧ v = .lit (.int .i64 (match look D.now n with | some i => ((D.files.getD i fl0).b.length : Int) | none => -1))) := by
  obtain ⟨tag, mn, ms, A, fid, B, hP⟩ := hP
  refine HC19 ?_
  unfold c19
  have ld1 := fun k => hP.ld hl k
  have hm := hl _ _ hP.now
  refine Join.of (fun xs t => t = s ∧ xs = [.lit (.bool (look D.now n).isNone)]) ?_ ?_
  rotate_left
  · intro K1 hK1
    simp only [eqp27, bindO, hcond, hvNil, hvFld, ld1, dC, List.getElem?_cons_succ, List.getElem?_cons_zero, lookN hm]
    cases hk : look D.now n with
    | none =>
      rw [hk] at hK1
      simp only [nilP, eqn77]
      exact hK1 _ _ ⟨rfl, rfl⟩
    | some i =>
      rw [hk] at hK1
      simp only [eqp77]
      exact hK1 _ _ ⟨rfl, rfl⟩
  rintro _ t ⟨rfl, rfl⟩
  simp only [List.headD_cons]
  cases hk : look D.now n with
  | none =>
    simp only [Option.isNone_none, hcond]
    exact ⟨trivial, trivial⟩
  | some i =>
    have hi := hw.look hk
    obtain ⟨f1, f2⟩ := hP.file i hi
    simp only [Option.isNone_some, hcond, bindO, hvNil, hvFld, ld1, dC, List.getElem?_cons_succ, List.getElem?_cons_zero, lookN hm, hk, ld_at (hl _ _ f1)]
    rw [show vLenT (Try.prog.underlying 22) t (B i) = some (.lit (.int .i64 (D.files.getD i fl0).b.length)) from f2.len _ _]
    exact ⟨trivial, by trivial⟩
def byV (l : List Int) : HV := .list 1 l.length (bl l) false
/-- A copy of bytes. -/
def AnyB (s : HS) (B : HV) (l : List Int) : Prop := (B = nilV ∧ l = []) ∨ (∃ q f cs, B = .view q 0 1 l.length f ∧ s q = some (.cells cs) ∧ cs.take l.length = bl l ∧ l.length ≤ cs.length) ∨ ∃ f, B = .list 1 l.length (bl l) f
theorem AnyB.cells {u : HS} {B : HV} {l : List Int} (hB : AnyB s B l) (hle : HS.le s u) : lcells u 1 B = some (bl l) := by
  rcases hB with ⟨rfl, rfl⟩ | ⟨q, f, cs, rfl, hq, ht, hc⟩ | ⟨f, rfl⟩
  · rfl
  · have hq' := hle _ _ hq
    simp [lcells, hq', hc, ht]
  · simp [lcells]
theorem AnyB.llen {B : HV} {l : List Int} (hB : AnyB s B l) : H.llen B = l.length := by
  rcases hB with ⟨rfl, rfl⟩ | ⟨q, f, cs, rfl, hq, ht, hc⟩ | ⟨f, rfl⟩ <;> rfl
theorem FRow.any {B : HV} {l : List Int} (hB : FRow h B l) (hl : HS.le h s) : AnyB s B l := by
  rcases hB with hB | ⟨q, f, rfl, hq⟩ | rfl
  · exact .inl hB
  · exact .inr (.inl ⟨q, f, _, rfl, hl _ _ hq, List.take_of_length_le (by rw [bl_len]; exact Nat.le_refl _), by rw [bl_len]; exact Nat.le_refl _⟩)
  · exact .inr (.inr ⟨_, rfl⟩)
theorem clone42 {B : HV} {l : List Int} (hB : AnyB s B l) (hn : l.length ≤ 1000000) : HC Try.prog 42 [B] s (fun v t => (v = byV l ∨ (l = [] ∧ v = nilV)) ∧ t = s) := by
  have go : (∀ e, vCmp (some (.slice e)) .eql B (.lit (.slice none 0 0)) = some (.lit (.bool false))) → HC Try.prog 42 [B] s (fun v t => (v = byV l ∨ (l = [] ∧ v = nilV)) ∧ t = s) := fun hc => by
    refine HC.up (HC42 ?_)
    unfold c42
    rw [show vCmp (Try.prog.underlying 22) .eql B (.lit (.slice none 0 0)) = some (.lit (.bool false)) from hc _]
    simp only [bindO, hcond]
    refine hBS0 fun Y hY => ?_
    refine app_empty (b := s) (le_set_new _ (le_refl' s) hY) hY (set_at _ _ _) (hB.cells (le_set_new _ (le_refl' s) hY)) hB.llen (by rw [bl_len, Nat.mul_one]) ⟨by omega, by omega⟩ ?_
    intro A' t' g1 g2
    exact ⟨_, s, acc0_upL g1 g2, .inl rfl, rfl⟩
  rcases hB with ⟨rfl, rfl⟩ | ⟨q, f, cs, rfl, hq, ht, hcl⟩ | ⟨ff, rfl⟩
  · refine HC42 ?_
    unfold c42
    rw [show vCmp (Try.prog.underlying 22) .eql nilV (.lit (.slice none 0 0)) = some (.lit (.bool true)) from rfl]
    simp only [bindO, hcond]
    exact ⟨.inr ⟨trivial, by trivial⟩, trivial⟩
  · exact go fun e => rfl
  · cases l with
    | nil =>
      refine HC.nilOr (pre := []) (post := []) (sz := 1) (full := ff) ?_ ?_
      · refine HC42 ?_
        unfold c42
        rw [show vCmp (Try.prog.underlying 22) .eql .nils (.lit (.slice none 0 0)) = some (.lit (.bool true)) from rfl]
        simp only [bindO, hcond]
        exact ⟨.inr ⟨trivial, by trivial⟩, trivial⟩
      · refine HC.up (HC42 ?_)
        unfold c42
        rw [show vCmp (Try.prog.underlying 22) .eql (.ne 1) (.lit (.slice none 0 0)) = some (.lit (.bool false)) from rfl]
        simp only [bindO, hcond]
        refine hBS0 fun Y hY => ?_
        refine app_empty (b := s) (k := 0) (xs := []) (le_set_new _ (le_refl' s) hY) hY (set_at _ _ _) rfl rfl rfl ⟨by omega, by omega⟩ ?_
        intro A' t' g1 g2
        exact ⟨_, s, acc0_upL g1 g2, .inl rfl, rfl⟩
    | cons x l => exact go fun e => rfl
/-- .. that are their reader's own. -/
theorem clone42O {B : HV} {l : List Int} (hB : AnyB s B l) (hn : l.length ≤ 1000000) : HC Try.prog 42 [B] s (fun v t => HS.le s t ∧ ((v = nilV ∧ l = []) ∨ ∃ q f, v = .view q 0 1 l.length f ∧ t q = some (.cells (bl l)) ∧ s q = none)) := by
  have app : ∀ X xs, lcells (s.set X (.cells [])) 1 xs = some (bl l) → H.llen xs = l.length → s X = none → hAppend (s.set X (.cells [])) 1 1 (.view X 0 1 0 true) xs (fun v t => HS.le s t ∧ ((v = nilV ∧ l = []) ∨ ∃ q f, v = .view q 0 1 l.length f ∧ t q = some (.cells (bl l)) ∧ s q = none)) := fun X xs h1 h2 h3 => by
    refine app_empty (b := s) (le_set_new _ (le_refl' s) h3) h3 (set_at _ _ _) h1 h2 (by rw [bl_len, Nat.mul_one]) ⟨by omega, by omega⟩ ?_
    intro A' t' g1 g2
    refine ⟨g2, ?_⟩
    rcases g1 with (⟨rfl, -, e⟩ | ⟨q, f, k1, k2, k3, -, -⟩) | ⟨e, e2, q, k1, k2, k3⟩
    · exact .inl ⟨rfl, List.length_eq_zero_iff.1 e⟩
    · exact .inr ⟨q, f, k2, k3, k1⟩
    · have : l = [] := List.length_eq_zero_iff.1 e
      subst this
      exact .inr ⟨q, true, k2, k3, k1⟩
  have go : (∀ e, vCmp (some (.slice e)) .eql B (.lit (.slice none 0 0)) = some (.lit (.bool false))) → HC Try.prog 42 [B] s (fun v t => HS.le s t ∧ ((v = nilV ∧ l = []) ∨ ∃ q f, v = .view q 0 1 l.length f ∧ t q = some (.cells (bl l)) ∧ s q = none)) := fun hc => by
    refine HC42 ?_
    unfold c42
    rw [show vCmp (Try.prog.underlying 22) .eql B (.lit (.slice none 0 0)) = some (.lit (.bool false)) from hc _]
    simp only [bindO, hcond]
    refine hBS0 fun Y hY => ?_
    exact app Y B (hB.cells (le_set_new _ (le_refl' s) hY)) hB.llen hY
  rcases hB with ⟨rfl, rfl⟩ | ⟨q, f, cs, rfl, hq, ht, hcl⟩ | ⟨ff, rfl⟩
  · refine HC42 ?_
    unfold c42
    rw [show vCmp (Try.prog.underlying 22) .eql nilV (.lit (.slice none 0 0)) = some (.lit (.bool true)) from rfl]
    simp only [bindO, hcond]
    exact ⟨le_refl' s, .inl ⟨by trivial, by trivial⟩⟩
  · exact go fun e => rfl
  · cases l with
    | nil =>
      refine HC.nilOr (pre := []) (post := []) (sz := 1) (full := ff) ?_ ?_
      · refine HC42 ?_
        unfold c42
        rw [show vCmp (Try.prog.underlying 22) .eql .nils (.lit (.slice none 0 0)) = some (.lit (.bool true)) from rfl]
        simp only [bindO, hcond]
        exact ⟨le_refl' s, .inl ⟨by trivial, by trivial⟩⟩
      · refine HC42 ?_
        unfold c42
        rw [show vCmp (Try.prog.underlying 22) .eql (.ne 1) (.lit (.slice none 0 0)) = some (.lit (.bool false)) from rfl]
        simp only [bindO, hcond]
        refine hBS0 fun Y hY => ?_
        have h9 := app Y (.ne 1) rfl rfl hY
        simp only at h9
        exact h9
    | cons x l => exact go fun e => rfl
end
end Go.Proofs.Ythfoanmokcepcaa.DS
end
section
namespace Go.Proofs.Ythfoanmokcepcaa.DS
open Go.Proofs.Ythfoanmokcepcaa.H Go.Proofs.Ythfoanmokcepcaa.AS Go.Proofs.Ythfoanmokcepcaa.X0 Go.RowKit Go.MapKept Go.Sort Go.Shelf Go.Maps
set_option linter.unusedVariables false
set_option linter.unusedSimpArgs false
set_option maxRecDepth 100000
theorem bl_lt : ∀ (a b : By), bl_ a b = true → a < b
  | [], [], h => by simp [bl_, Op.bytesLess] at h
  | [], y :: b, _ => List.nil_lt_cons y b
  | x :: a, [], h => by simp [bl_, Op.bytesLess] at h
  | x :: a, y :: b, h => by
    simp only [bl_, Op.bytesLess, Bool.or_eq_true, Bool.and_eq_true, decide_eq_true_eq, beq_iff_eq] at h
    rw [List.cons_lt_cons_iff]
    rcases h with h | ⟨rfl, h⟩
    · exact .inl h
    · exact .inr ⟨rfl, bl_lt a b h⟩
theorem le_bl {a b : By} (h : a ≤ b) (hne : a ≠ b) : bl_ a b = true := by
  cases hb : bl_ b a with
  | true => exact absurd (bl_lt _ _ hb) (List.not_lt.2 h)
  | false =>
    rcases bl_tri b a hb with h | h
    · exact absurd h.symm hne
    · exact h
/-- Names, told. -/
def namesV (ns : List By) : HV := accV 1 ns.length (rows strC ns)
theorem rows_str (ns : List By) : rows strC ns = ns.map strV := by
  induction ns with
  | nil => rfl
  | cons x l ih => rw [rows_cons, ih]; rfl
theorem strs_names (ks : List By) : CL.strsV ks = namesV ks := by
  unfold CL.strsV namesV accV
  by_cases e : ks = []
  · rw [if_pos e, if_pos (by rw [e]; rfl)]
  · rw [if_neg e, if_neg (fun hh => e (List.length_eq_zero_iff.1 hh)), rows_str]
    rfl
section
variable {s h : HS} {d K : Nat} {D : DK} {tag : Nat → Nat} {mn ms : Nat} {A : HV} {fid : Nat → Nat} {B : Nat → HV}
def DK.names (D : DK) : List By := D.now.map Prod.fst
/-- The sorted keys of a map of names. -/
theorem keys41 {l : List Nm} {m : Nat} (hm : s m = some (.map .string (nmF fid l) l.length)) (hs : Srt l) (hlen : l.length ≤ 100000000) (hnl : ∀ x ∈ l, x.1.length ≤ 100) :
    HC Try.prog 41 [.map m] s (fun r5 s6 => HC Try.prog 40 [r5] s6 (fun v t => v = namesV (l.map Prod.fst) ∧ HS.le s t)) := by
  refine (CL.keys63 m).mono ?_
  rintro _ t ⟨q, hq, rfl, rfl⟩
  have hle := le_set_new (.root [.map m]) (le_refl' s) hq
  refine (CL.sorted62 (q := q) (mid := m) (set_at _ _ _) (hle _ _ hm) (fun k x hk => ?_) (by omega)).mono ?_
  · obtain ⟨n, i, rfl, e2, -⟩ := nmF_str hk
    refine ⟨_, rfl, ?_⟩
    have := hnl _ ((look_mem hs).1 e2)
    show n.toArray.size ≤ _
    simp
    simp only at this
    omega
  · rintro _ u ⟨ks, k1, k2, k3, k4, rfl, rfl⟩
    refine ⟨?_, hle⟩
    have : ks = l.map Prod.fst := by
      refine strict_uniq id ks (l.map Prod.fst) ?_ ?_ fun x => ?_
      · have := List.Pairwise.and k1 k2
        exact this.imp fun ⟨h1, h2⟩ => le_bl h1 h2
      · rw [List.pairwise_map]
        exact hs
      · rw [k3]
        have e : nmF fid l (encStr x) = (look l x).map fun i => .ptr (fid i) 0 := nmF_at x
        rw [e, Option.isSome_map]
        constructor
        · intro hh
          obtain ⟨i, hi⟩ := Option.isSome_iff_exists.1 hh
          exact List.mem_map.2 ⟨_, (look_mem hs).1 hi, rfl⟩
        · intro hh
          obtain ⟨y, hy, rfl⟩ := List.mem_map.1 hh
          rw [(look_mem hs).2 (show (y.1, y.2) ∈ l from hy)]
          rfl
    rw [strs_names, this]
theorem names20 (hP : PS h d D) (hl : HS.le h s) (hw : Wf K D) : HC Try.prog 20 [.ptr d 0] s (fun v t => v = namesV D.names ∧ HS.le s t) := by
  obtain ⟨tag, mn, ms, A, fid, B, hP⟩ := hP
  refine HC20 ?_
  unfold c20
  have ld1 := fun k => hP.ld hl k
  simp only [eqp27, bindO, hcond, hvNil, hvFld, ld1, dC, List.getElem?_cons_succ, List.getElem?_cons_zero]
  exact keys41 (hl _ _ hP.now) hw.sn (by have := hw.nw; have := hw.k; omega) hw.nl
/-- Bytes that were read. -/
def RV (x : HV) (l : List Int) : Prop := x = byV l ∨ (l = [] ∧ x = nilV)
theorem read17 (hP : PS h d D) (hl : HS.le h s) (hw : Wf K D) (n : By) : HC Try.prog 17 [.ptr d 0, strV n] s (fun v t => ∃ x, v = .tup [x, .lit (.int .i64 (D.read n).2)] ∧ RV x (D.read n).1 ∧ t = s) := by
  refine HC17 ?_
  unfold c17
  refine (size19 hP hl hw n).mono ?_
  rintro _ t ⟨rfl, rfl⟩
  obtain ⟨tag, mn, ms, A, fid, B, hP⟩ := hP
  have ld1 := fun k => hP.ld hl k
  have hm := hl _ _ hP.now
  unfold DK.read
  cases hk : look D.now n with
  | none =>
    simp only [lss_n, bindO, show decide ((-1 : Int) < 0) = true from rfl, hcond]
    exact ⟨_, rfl, .inr ⟨rfl, rfl⟩, trivial⟩
  | some i =>
    have hi := hw.look hk
    obtain ⟨f1, f2⟩ := hP.file i hi
    have hbi := (hw.at_ hi).1
    have hkk := hw.k
    have hn0 : ¬ (((D.files.getD i fl0).b.length : Int) < 0) := by omega
    simp only [lss_n, bindO, hn0, decide_false, hcond, hvNil, hvFld, ld1, dC, List.getElem?_cons_succ, List.getElem?_cons_zero, lookN hm, hk, ld_at (hl _ _ f1)]
    refine (clone42 (f2.any hl) (by omega)).mono ?_
    rintro x u ⟨hx, rfl⟩
    exact ⟨x, rfl, hx, rfl⟩
theorem syncDir15 (hP : PS h d D) (hl : HS.le h s) (hw : Wf K D) : HC Try.prog 15 [.ptr d 0] s (fun v t => Did2 s h t d D.syncDir v) := by
  obtain ⟨tag, mn, ms, A, fid, B, hP⟩ := hP
  refine HC15 ?_
  unfold c15
  refine (asked34 hP hl hw (ns := []) (.inl ⟨rfl, rfl⟩) (by simp)).mono ?_
  rintro _ t ⟨rfl, ht⟩
  have hT : Turn s h t (h.set d (.cells (dC D.ask mn ms A))) := by rw [ht]; exact Turn.set hl hP.at_ _
  clear ht
  have hP' := hP.ask
  generalize h.set d (.cells (dC D.ask mn ms A)) = h1 at hT hP'
  obtain ⟨e1, e2, e3, e4, e5, e6⟩ := ask_same D
  unfold DK.syncDir Did2
  by_cases he : D.err [] = 0
  · simp only [he, ne_eq, not_true, if_false, bindO, eql28, decide_true, hcond]
    refine Join.of (fun _ u => ∃ h', PS h' d { D.ask with safe := D.now, acts := [] } ∧ Turn s h u h') ?_ ?_
    · rintro _ u ⟨h', k1, k2⟩
      exact ⟨by trivial, h', k1, k2⟩
    · intro K3 hK3
      have ld1 := fun k => hP'.ld hT.1 k
      simp only [hvNil, hvFld, ld1, dC, List.getElem?_cons_succ, List.getElem?_cons_zero]
      refine (clone37 (hT.1 _ _ hP'.now)).mono ?_
      rintro _ u ⟨q, hq, rfl, rfl⟩
      have hT2 := hT.trans (Turn.new hT.1 hq (.map .string (nmF fid D.ask.now) D.ask.now.length))
      have hq1 : h1 q = none := none_of_le hT.1 hq
      have hdq : d ≠ q := fun e => by rw [← e, hP'.at_] at hq1; cases hq1
      have hmq : mn ≠ q := fun e => by rw [← e, hP'.now] at hq1; cases hq1
      have h2d : (h1.set q (.map .string (nmF fid D.ask.now) D.ask.now.length)) d = some (.cells (dC D.ask mn ms A)) := by rw [set_ne _ _ hdq]; exact hP'.at_
      refine store1 (hT2.1 _ _ h2d) (by simp [dC]) (hc_map _) (ho_map _) rfl ?_
      refine store1 (set_at _ _ _) (by simp [dC]) (hc_slice _ _ _) (ho_slice _ _ _) rfl ?_
      rw [set_set]
      have hT3 := hT2.trans (Turn.set hT2.1 h2d (.cells (dC { D.ask with safe := D.now, acts := [] } mn q nilV)))
      obtain ⟨g1, g2⟩ := hP'.nd
      obtain ⟨tag', hfin⟩ := hP'.re (h3 := (h1.set q (.map .string (nmF fid D.ask.now) D.ask.now.length)).set d (.cells (dC { D.ask with safe := D.now, acts := [] } mn q nilV))) (D3 := { D.ask with safe := D.now, acts := [] }) (mn3 := mn) (ms3 := q) (A3 := nilV) (set_at _ _ _)
        (by rw [set_ne _ _ g1, set_ne _ _ hmq]; exact hP'.now) (by rw [set_ne _ _ (Ne.symm hdq), set_at, e1]) hmq (.inl ⟨rfl, rfl, rfl⟩) rfl
        (fun k ob hk ht => by
          rw [set_ne _ _ (fun e => ht (by rw [e]; exact hP'.td.1)), set_ne _ _ (fun e => by rw [e, hq1] at hk; cases hk)]
          exact hk) (.inr hP'.td.2.1) (.inl hq1) (fun q hq => by cases hq)
      exact hK3 _ _ ⟨_, hfin.ps, hT3⟩
  · simp only [he, ne_eq, not_false_iff, if_true, bindO, eql28, decide_false, hcond]
    refine Join.of (fun _ u => u = t) ?_ ?_
    · rintro _ u rfl
      exact ⟨by trivial, h1, hP'.ps, hT⟩
    · intro K3 hK3
      exact hK3 _ _ rfl
end
end Go.Proofs.Ythfoanmokcepcaa.DS
end
section
namespace Go.Proofs.Ythfoanmokcepcaa.DS
open Go.Proofs.Ythfoanmokcepcaa.H Go.Proofs.Ythfoanmokcepcaa.AS Go.Proofs.Ythfoanmokcepcaa.X0
set_option linter.unusedVariables false
set_option linter.unusedSimpArgs false
set_option maxRecDepth 100000
def intC (x : Int) : List HV := [.lit (.int .i64 x)]
theorem intC_len (x : Int) : (intC x).length = 1 := rfl
/-- A row of numbers that is read. -/
def IRow (v : HV) (l : List Int) : Prop := v = rowL intC 1 l ∨ (l = [] ∧ v = nilV)
theorem tmod_fix (x m : Int) (hm : 0 < m) : (if x.tmod m < 0 then x.tmod m + m else x.tmod m) = x % m := by
  have h1 := Int.emod_nonneg x (show m ≠ 0 by omega)
  have h2 := Int.emod_lt_of_pos x hm
  rw [Int.tmod_eq_emod]
  split
  · rename_i hc
    rw [if_neg (by omega)]
    omega
  · rename_i hc
    have h3 : x % m ≠ 0 := fun e => hc (.inr (Int.dvd_of_emod_eq_zero e))
    rw [if_pos (by omega)]
    omega
theorem tmod_bd (x m : Int) (hm : 0 < m) : -m < x.tmod m ∧ x.tmod m < m := by
  have h1 := Int.emod_nonneg x (show m ≠ 0 by omega)
  have h2 := Int.emod_lt_of_pos x hm
  rw [Int.tmod_eq_emod]
  split
  · omega
  · rename_i hc
    have h3 : x % m ≠ 0 := fun e => hc (.inr (Int.dvd_of_emod_eq_zero e))
    omega
theorem part_bd (l : List Int) {n : Int} (hn : 0 ≤ n) : 0 ≤ part l n ∧ part l n ≤ n := by
  unfold part
  split
  · omega
  · rename_i k r
    have h1 := Int.emod_nonneg k (show n + 1 ≠ 0 by omega)
    have h2 := Int.emod_lt_of_pos k (show 0 < n + 1 by omega)
    omega
section
variable {s h : HS} {d K : Nat} {D : DK} {tag : Nat → Nat} {mn ms : Nat} {A : HV} {fid : Nat → Nat} {B : Nat → HV}
theorem part38 {a0 : HV} {l : List Int} (ha : IRow a0 l) {n : Int} (hn : 0 ≤ n ∧ n ≤ 1000000000) (s : HS) : HC Try.prog 38 [a0, .lit (.int .i64 n)] s (fun v t => t = s ∧ ∃ a1, v = .tup [.lit (.int .i64 (part l n)), a1] ∧ IRow a1 l.tail) := by
  refine HC38 ?_
  unfold c38
  have hlen : vLenT (Try.prog.underlying 24) s a0 = some (.lit (.int .i64 ((l.length : Nat) : Int))) := by
    rcases ha with rfl | ⟨rfl, rfl⟩ <;> rfl
  rw [hlen]
  simp only [bindO, eql3]
  cases l with
  | nil =>
    simp only [List.length_nil, show decide (((0 : Nat) : Int) = 0) = true from rfl, hcond]
    exact ⟨trivial, _, rfl, .inr ⟨rfl, rfl⟩⟩
  | cons k l =>
    have h0 : decide ((((k :: l).length : Nat) : Int) = 0) = false := by rw [decide_eq_false_iff_not, List.length_cons]; omega
    have ha' : a0 = rowL intC 1 (k :: l) := by
      rcases ha with rfl | ⟨e, -⟩
      · rfl
      · cases e
    subst ha'
    have x1 : vIdx 1 (rowL intC 1 (k :: l)) (.lit (.int .i64 0)) = some (.elt (intC k) 0) := idx_rowL intC_len 0 (k :: l) (i := 0) .i64 (by simp)
    simp only [h0, hcond, x1]
    rw [show vLoad s (.elt (intC k) 0) 1 false = some (.lit (.int .i64 k)) from rfl]
    rw [add_n (by omega) (by omega)]
    simp only
    rw [show vBin .rem (.lit (.int .i64 k)) (.lit (.int .i64 (n + 1))) = some (.lit (.int .i64 (k.tmod (n + 1)))) from by
      simp only [vBin, if_true]
      rw [if_neg (by omega)]]
    have hb := tmod_bd k (n + 1) (by omega)
    have hfix := tmod_fix k (n + 1) (by omega)
    simp only [lss_n]
    refine Join.of (fun xs t => t = s ∧ xs = [.lit (.int .i64 (k % (n + 1)))]) ?_ ?_
    · rintro _ t ⟨rfl, rfl⟩
      have x2 : vSlice 1 (rowL intC 1 (k :: l)) (some (.lit (.int .i64 1))) none none = some (rowL intC 1 l) := by
        have := slice_rowL_lo intC_len (k :: l) (lo := 1) .i64 (by simp)
        exact this
      simp only [List.headD_cons, x2]
      exact ⟨trivial, _, rfl, .inl rfl⟩
    · intro K7 hK7
      by_cases hlt : k.tmod (n + 1) < 0
      · rw [if_pos hlt] at hfix
        simp only [hlt, decide_true]
        rw [add_n (a := k.tmod (n + 1)) (b := n + 1) (by omega) (by omega)]
        exact hK7 _ _ ⟨rfl, by rw [hfix]⟩
      · rw [if_neg hlt] at hfix
        simp only [hlt, decide_false]
        exact hK7 _ _ ⟨rfl, by rw [hfix]⟩
theorem numbered_app : ∀ (l : List Nm) (x : Nm) (k : Nat), numbered (l ++ [x]) k = numbered l k ++ [(x.1, k + l.length)]
  | [], x, k => rfl
  | y :: l, x, k => by
    show (y.1, k) :: numbered (l ++ [x]) (k + 1) = (y.1, k) :: numbered l (k + 1) ++ [(x.1, k + (l.length + 1))]
    rw [numbered_app l x (k + 1), show k + 1 + l.length = k + (l.length + 1) from by omega]
    rfl
theorem numbered_names : ∀ (l : List Nm) (k : Nat), (numbered l k).map Prod.fst = l.map Prod.fst
  | [], _ => rfl
  | x :: l, k => by
    show x.1 :: (numbered l (k + 1)).map Prod.fst = x.1 :: l.map Prod.fst
    rw [numbered_names l]
theorem numbered_len (l : List Nm) (k : Nat) : (numbered l k).length = l.length := by
  have := congrArg List.length (numbered_names l k)
  simpa using this
theorem numbered_lt : ∀ (l : List Nm) (k : Nat), ∀ x ∈ numbered l k, x.2 < k + l.length
  | [], _, x, hx => by cases hx
  | y :: l, k, x, hx => by
    rcases List.mem_cons.1 (show x ∈ (y.1, k) :: numbered l (k + 1) from hx) with rfl | hx
    · simp
    · have := numbered_lt l (k + 1) x hx
      rw [List.length_cons]
      omega
theorem srt_names {a b : List Nm} (h : Srt a) (e : b.map Prod.fst = a.map Prod.fst) : Srt b := by
  have h1 : (a.map Prod.fst).Pairwise fun x y => bl_ x y = true := List.pairwise_map.2 h
  rw [← e] at h1
  exact List.pairwise_map.1 h1
theorem srt_take {l : List Nm} (h : Srt l) (j : Nat) : Srt (l.take j) := List.Pairwise.sublist (List.take_sublist j l) h
theorem with_last {l : List Nm} {n : By} (i : Nat) (h : ∀ x ∈ l, bl_ x.1 n = true) : withN l n i = l ++ [(n, i)] := by
  unfold withN
  rw [List.filter_eq_self.2 h, List.filter_eq_nil_iff.2 fun x hx => by rw [bl_asymm (h x hx)]; exact Bool.false_ne_true]
/-- The disk behind a crash, on the way. -/
def ND (room : Int) (l : List Nm) (fs : List Fl) (j : Nat) : DK := ⟨room, fs, numbered (l.take j) 0, [], [], false, 0, false, 0⟩
theorem crash16 (hP : PS h d D) (hl : HS.le h s) (hw : Wf K D) (hc : Ch D) {a1 : HV} {picks : List Int} (hp : IRow a1 picks) :
    HC Try.prog 16 [.ptr d 0, a1] s (fun v t => ∃ dd h', v = .ptr dd 0 ∧ PS h' dd (D.crash picks) ∧ HS.le h' t ∧ HS.le s t ∧ ∀ k ob, s k = some ob → h' k = none) := by
  obtain ⟨tag, mn, ms, A, fid, B, hP⟩ := hP
  refine HC16 ?_
  unfold c16
  have ld0 := fun k => hP.ld hl k
  have hroom := hw.room
  have hna := hw.na
  have hkk := hw.k
  refine Join.of (fun xs t => t = s ∧ xs = [.lit (.bool false)]) ?_ ?_
  rotate_left
  · intro K1 hK1
    simp only [eqp27, bindO, hcond, hvNil, hvFld, ld0, dC, List.getElem?_cons_succ, List.getElem?_cons_zero, eqm72]
    exact hK1 _ _ ⟨rfl, rfl⟩
  rintro _ t ⟨rfl, rfl⟩
  simp only [List.headD_cons, hcond, bindO, hvNil, hvFld, ld0, dC, List.getElem?_cons_succ, List.getElem?_cons_zero]
  rw [show vLenT (Try.prog.underlying 73) t A = some (.lit (.int .i64 ((D.acts.length : Nat) : Int))) from by rcases hP.acts with ⟨rfl, -, e⟩ | ⟨q, f, rfl, -⟩; rw [e]; rfl; rfl]
  simp only
  refine (part38 hp (n := (D.acts.length : Nat)) (by omega) t).mono ?_
  rintro _ t1 ⟨rfl, a2, rfl, hp2⟩
  obtain ⟨b1, b2⟩ := part_bd picks (n := (D.acts.length : Nat)) (by omega)
  obtain ⟨p, hpe⟩ : ∃ p : Nat, part picks (D.acts.length : Nat) = (p : Int) := ⟨(part picks (D.acts.length : Nat)).toNat, by omega⟩
  have hple : p ≤ D.acts.length := by omega
  rw [hpe]
  simp only [vExtract, List.getElem?_cons_succ, List.getElem?_cons_zero, ld0, dC]
  refine (clone37 (hl _ _ hP.safe)).mono ?_
  rintro _ t2 ⟨q, hq, rfl, rfl⟩
  have hle1 := le_set_new (.map .string (nmF fid D.safe) D.safe.length) (le_refl' t1) hq
  have hl1 := HS.le.trans hl hle1
  have ld1 := fun k => hP.ld hl1 k
  simp only [hvNil, hvFld, ld1, dC, List.getElem?_cons_succ, List.getElem?_cons_zero]
  obtain ⟨x25, hx25, hx25l, hx25a⟩ : ∃ x25, vSlice 3 A none (some (.lit (.int .i64 (p : Int)))) none = some x25 ∧ (∀ u, vLenT (Try.prog.underlying 73) u x25 = some (.lit (.int .i64 (p : Int)))) ∧ ∀ u i, HS.le h u → i < p → ∃ e, vIdx 3 x25 (.lit (.int .i64 (i : Int))) = some e ∧ vLoad u e 3 true = some (.agg (acP fid (D.acts.getD i ac0))) := by
    rcases hP.acts with ⟨rfl, -, e⟩ | ⟨q0, f, rfl, h3, h4⟩
    · have hp0 : p = 0 := by omega
      subst hp0
      exact ⟨nilV, rfl, fun u => rfl, fun u i _ hi => absurd hi (Nat.not_lt_zero _)⟩
    · refine ⟨.view q0 0 3 p (f && p == D.acts.length), slice_view_hi .i64 hple, fun u => rfl, fun u i hu hi => ?_⟩
      have hq0 : u q0 = some (.cells (rows (acP fid) D.acts ++ [])) := by rw [List.append_nil]; exact hu _ _ h3
      refine ⟨_, idx_view .i64 hi, ?_⟩
      rw [Nat.zero_add]
      exact load_rows (acP_len fid) ac0 hq0 (by omega)
  rw [hx25]
  simp only [hx25l]
  have hsq : ∀ k ob, t1 k = some ob → k ≠ q := fun k ob hk => ne_new hk hq
  refine HLoop.ghost (σ := Nat) (fun i => [.lit (.int .i64 (i : Int))]) (fun i u => i ≤ p ∧ HS.le t1 u ∧ u q = some (.map .string (nmF fid ((D.acts.take i).foldl applyA D.safe)) ((D.acts.take i).foldl applyA D.safe).length)) (fun i => p - i) 0 rfl ⟨Nat.zero_le _, hle1, set_at _ _ _⟩ ?_
  rintro i u K' ⟨h1, h2, h3⟩ hK
  simp only [List.headD_cons, lss_i]
  by_cases hlt : i < p
  · obtain ⟨e, y1, y2⟩ := hx25a u i (HS.le.trans hl h2) hlt
    have hia : i < D.acts.length := by omega
    have htk := take_succ' ac0 D.acts hia
    simp only [hlt, decide_true, y1, y2]
    refine new_store (vs := acP fid (D.acts.getD i ac0)) rfl (acP_len fid _) (acP_one fid _) fun X hX => ?_
    have hle2 := le_set_new (.cells (acP fid (D.acts.getD i ac0))) (le_refl' u) hX
    have hXl := load_all (acP_len fid (D.acts.getD i ac0)) (set_at u X (.cells (acP fid (D.acts.getD i ac0))))
    have hq2 := hle2 _ _ h3
    generalize u.set X (.cells (acP fid (D.acts.getD i ac0))) = u1 at *
    simp only [hXl]
    have hval : ValA D.files.length ((D.acts.take i).foldl applyA D.safe) (D.acts.getD i ac0) := by
      have hv := hc.val.take (i + 1)
      rw [htk] at hv
      have : ∀ (ac : List AC) (l : List Nm) (a : AC), Val D.files.length l (ac ++ [a]) → ValA D.files.length (ac.foldl applyA l) a := by
        intro ac
        induction ac with
        | nil => intro l a hv; exact hv.1
        | cons b ac ih => intro l a hv; exact ih _ _ hv.2
      exact this _ _ _ hv
    refine (does39 hq2 (srt_foldl hw.ss _) hval).mono ?_
    rintro _ u2 ⟨rfl, u3, hu3, rfl⟩
    simp only [inc_i hlt (by omega)]
    refine hK (i + 1) _ _ rfl ⟨hlt, fun k ob hk => ?_, ?_⟩ (by omega)
    · rw [set_ne _ _ (hsq k ob hk)]
      exact hu3 _ _ (hle2 _ _ (h2 _ _ hk))
    · rw [set_at, htk, List.foldl_append]
      rfl
  · obtain rfl : i = p := by omega
    simp only [hlt, decide_false]
    clear hK
    have hsl := srt_foldl hw.ss (D.acts.take i)
    have hvt := hc.val.take i
    have hnl := nl_foldl hvt hw.sl
    have hidx := mem_foldl hvt hw.ns
    have hlen : ((D.acts.take i).foldl applyA D.safe).length ≤ 2000000 := by
      have h1 := len_foldl (D.acts.take i) D.safe
      have h2 : (D.acts.take i).length ≤ D.acts.length := by rw [List.length_take]; omega
      have h4 := hw.nsf
      omega
    have hcr : D.crash picks = { ND D.room ((D.acts.take i).foldl applyA D.safe) (crashF D.files ((D.acts.take i).foldl applyA D.safe) picks.tail) ((D.acts.take i).foldl applyA D.safe).length with safe := numbered ((D.acts.take i).foldl applyA D.safe) 0 } := by
      unfold DK.crash ND
      rw [hpe, List.take_length]
      rfl
    rw [hcr]
    generalize (D.acts.take i).foldl applyA D.safe = l at *
    clear hcr hvt hx25a hx25l hx25 hpe
    have hlu := HS.le.trans hl h2
    have ldu := fun k => hP.ld hlu k
    simp only [hvNil, hvFld, ldu, dC, List.getElem?_cons_succ, List.getElem?_cons_zero]
    refine (new12 u).mono ?_
    rintro v u1 hv
    rw [if_pos hroom] at hv
    obtain ⟨dd, g0, rfl, hg0, hg0l, hle3, hfr⟩ := hv
    simp only [vExtract, List.getElem?_cons_succ, List.getElem?_cons_zero]
    refine (keys41 (hle3 _ _ h3) hsl (by omega) hnl).mono ?_
    intro r5 s6 hcall
    refine hcall.mono ?_
    rintro _ u2 ⟨rfl, hle4⟩
    have hq2 := hle4 _ _ (hle3 _ _ h3)
    have h2' : HS.le t1 u2 := HS.le.trans h2 (HS.le.trans hle3 hle4)
    have hg2 : HS.le g0 u2 := HS.le.trans hg0l hle4
    have hfr' : ∀ k ob, t1 k = some ob → g0 k = none := fun k ob hk => hfr k ob (h2 _ _ hk)
    have hqg : g0 q = none := hfr q _ h3
    have hnv : ∀ v, vLenT (Try.prog.underlying 41) v (namesV (l.map Prod.fst)) = some (.lit (.int .i64 ((l.length : Nat) : Int))) := fun v => by
      unfold namesV accV
      rw [List.length_map]
      split
      · rename_i e; rw [e]; rfl
      · rfl
    have hni : ∀ j, j < l.length → vIdx 1 (namesV (l.map Prod.fst)) (.lit (.int .i64 (j : Int))) = some (.elt (strC (l.getD j nm0).1) 0) := fun j hj => by
      have hj' : j < (l.map Prod.fst).length := by rw [List.length_map]; exact hj
      have e : namesV (l.map Prod.fst) = rowL strC 1 (l.map Prod.fst) := by
        unfold namesV accV
        rw [if_neg (by omega)]
        rfl
      rw [e, idx_rowL strC_len [] _ .i64 hj']
      congr 3
      rw [List.getD, List.getD, List.getElem?_map, List.getElem?_eq_getElem hj]
      rfl
    simp only [hnv]
    clear h3 hg0l hle3 hfr hle4 h2 hlu ldu
    refine HLoop.ghost (σ := HV × List Int × Nat × List Fl) (fun x => [x.1, .lit (.int .i64 (x.2.2.1 : Int))]) (fun x w => x.2.2.1 ≤ l.length ∧ IRow x.1 x.2.1 ∧ x.2.2.2.length = x.2.2.1 ∧ crashF D.files l picks.tail = x.2.2.2 ++ crashF D.files (l.drop x.2.2.1) x.2.1 ∧ w q = some (.map .string (nmF fid l) l.length) ∧ HS.le t1 w ∧ ∃ g tag' mn' ms' A' fid' B', PD g dd (ND D.room l x.2.2.2 x.2.2.1) tag' mn' ms' A' fid' B' ∧ HS.le g w ∧ (∀ k ob, t1 k = some ob → g k = none) ∧ g q = none) (fun x => l.length - x.2.2.1) (a2, picks.tail, 0, []) rfl ⟨Nat.zero_le _, hp2, rfl, rfl, hq2, h2', ?_⟩ ?_
    · obtain ⟨tag', mn', ms', A', fid', B', hPD⟩ := hg0
      exact ⟨g0, tag', mn', ms', A', fid', B', hPD, hg2, hfr', hqg⟩
    rintro ⟨a3, pk, j, done⟩ w K2 ⟨r1, r2, r3, r4, r5, r6, g, tag', mn', ms', A', fid', B', r7, r8, r9, r10⟩ hK2
    simp only at r1 r2 r3 r4 r5 r6 r7 r8 r9 r10
    have hlw := HS.le.trans hl r6
    have ldd := fun k => r7.ld r8 k
    simp only [List.headD_cons, List.tail_cons, lss_i]
    by_cases hlt2 : j < l.length
    · have hdc := drop_cons' nm0 l hlt2
      have hxm := getD_memD nm0 hlt2
      have htk2 := take_succ' nm0 l hlt2
      have hlast : ∀ y ∈ numbered (l.take j) 0, bl_ y.1 (l.getD j nm0).1 = true := fun y hy => by
        have hy1 : y.1 ∈ (l.take j).map Prod.fst := by rw [← numbered_names (l.take j) 0]; exact List.mem_map_of_mem hy
        obtain ⟨z, hz, e⟩ := List.mem_map.1 hy1
        have hs2 : Srt (l.take (j + 1)) := srt_take hsl (j + 1)
        rw [htk2] at hs2
        have := (List.pairwise_append.1 hs2).2.2 z hz (l.getD j nm0) (List.mem_singleton.2 rfl)
        rw [← e]
        exact this
      simp only [hlt2, decide_true, hni j hlt2]
      generalize l.getD j nm0 = x at *
      have hlk : look l x.1 = some x.2 := (look_mem hsl).2 hxm
      have hxi := hidx x hxm
      obtain ⟨f1, f2⟩ := hP.file x.2 hxi
      have hfa := hw.at_ hxi
      have hfw := hlw _ _ f1
      generalize hfl : D.files.getD x.2 fl0 = fl at *
      have hcs : crashF D.files (l.drop j) pk = (if fl.safe < fl.b.length then ⟨fl.b.take (fl.safe + part pk (fl.b.length - fl.safe)).toNat, fl.safe + part pk (fl.b.length - fl.safe)⟩ :: crashF D.files (l.drop (j + 1)) pk.tail else ⟨fl.b.take fl.safe.toNat, fl.safe⟩ :: crashF D.files (l.drop (j + 1)) pk) := by
        rw [hdc]
        show (if (D.files.getD x.2 fl0).safe < ((D.files.getD x.2 fl0).b.length : Int) then _ else _) = _
        rw [hfl]
      rw [show vLoad w (.elt (strC x.1) 0) 1 false = some (strV x.1) from rfl]
      simp only [lookN r5, hlk]
      refine Join.of (fun xs v => v = w ∧ ∃ (a4 : HV) (pk4 : List Int) (N : Nat), xs = [a4, .lit (.int .i64 ((N : Int) - fl.safe))] ∧ IRow a4 pk4 ∧ fl.safe ≤ (N : Int) ∧ N ≤ fl.b.length ∧ crashF D.files (l.drop j) pk = (⟨fl.b.take N, ((N : Nat) : Int)⟩ : Fl) :: crashF D.files (l.drop (j + 1)) pk4) ?_ ?_
      rotate_left
      · intro K59 hK59
        simp only [hvNil, hvFld, ld_at hfw, List.getElem?_cons_succ, List.getElem?_cons_zero]
        rw [show vLenT (Try.prog.underlying 22) w (B x.2) = some (.lit (.int .i64 fl.b.length)) from f2.len _ _]
        simp only [lss_n]
        by_cases hsf : fl.safe < (fl.b.length : Int)
        · rw [if_pos hsf] at hcs
          simp only [hsf, decide_true]
          rw [sub_n (by omega) (by omega)]
          simp only
          refine (part38 r2 (n := (fl.b.length : Int) - fl.safe) (by omega) w).mono ?_
          rintro _ v ⟨rfl, a4, rfl, hp4⟩
          obtain ⟨p1, p2⟩ := part_bd pk (n := (fl.b.length : Int) - fl.safe) (by omega)
          simp only [vExtract, List.getElem?_cons_succ, List.getElem?_cons_zero]
          have hN : (((fl.safe + part pk (fl.b.length - fl.safe)).toNat : Nat) : Int) = fl.safe + part pk (fl.b.length - fl.safe) := by omega
          refine hK59 _ _ ⟨rfl, a4, pk.tail, (fl.safe + part pk (fl.b.length - fl.safe)).toNat, ?_, hp4, by omega, by omega, ?_⟩
          · rw [hN, show fl.safe + part pk (fl.b.length - fl.safe) - fl.safe = part pk (fl.b.length - fl.safe) from by omega]
          · rw [hcs, hN]
        · rw [if_neg hsf] at hcs
          simp only [hsf, decide_false]
          have hN : ((fl.safe.toNat : Nat) : Int) = fl.safe := by omega
          refine hK59 _ _ ⟨rfl, a3, pk, fl.safe.toNat, ?_, r2, by omega, by omega, ?_⟩
          · rw [hN, show fl.safe - fl.safe = 0 from by omega]
          · rw [hcs, hN]
      rintro _ v ⟨rfl, a4, pk4, N, rfl, q2, q3, q4, q5⟩
      simp only [List.headD_cons, List.tail_cons, hvNil, hvFld, ld_at hfw, List.getElem?_cons_succ, List.getElem?_cons_zero]
      rw [add_n (by omega) (by omega), show (N : Int) - fl.safe + fl.safe = (N : Int) from by omega]
      simp only [hvNil, hvFld, ldd, dC, List.getElem?_cons_succ, List.getElem?_cons_zero]
      obtain ⟨xc, hxc, hxa⟩ : ∃ xc, vSlice 1 (B x.2) none (some (.lit (.int .i64 (N : Int)))) none = some xc ∧ AnyB v xc (fl.b.take N) := by
        have hbt : (bl fl.b).take N = bl (fl.b.take N) := by unfold bl; rw [List.map_take]
        have hmn : min N fl.b.length = N := by omega
        rcases f2 with ⟨e1, e2⟩ | ⟨q0, f, e1, e2⟩ | e1
        · have hN : N = 0 := by rw [e2] at q4; simpa using q4
          subst hN
          exact ⟨nilV, by rw [e1]; rfl, .inl ⟨rfl, by simp⟩⟩
        · refine ⟨.view q0 0 1 N (f && N == fl.b.length), by rw [e1]; exact slice_view_hi .i64 q4, .inr (.inl ⟨q0, _, bl fl.b, by rw [List.length_take, hmn], hlw _ _ e2, ?_, ?_⟩)⟩
          · rw [List.length_take, hmn]; exact hbt
          · rw [List.length_take, hmn, bl_len]; exact q4
        · refine ⟨.list 1 (fl.b.take N).length (bl (fl.b.take N)) (true && N == fl.b.length), ?_, .inr (.inr ⟨_, rfl⟩)⟩
          rw [e1]
          simp [vSlice, cutAt, intAt, q4, hbt, hmn]
      rw [hxc]
      simp only
      refine (clone42O hxa (by rw [List.length_take]; omega)).mono ?_
      rintro bv w1 ⟨hle9, hbv⟩
      have ldd1 : ∀ k, vLoad w1 (.ptr dd k) 1 false = (dC (ND D.room l done j) mn' ms' A')[k]? := fun k => r7.ld (HS.le.trans r8 hle9) k
      refine ⟨by rw [ldd1]; rfl, ?_⟩
      have hbo : hone bv = true := by rcases hbv with ⟨rfl, -⟩ | ⟨_, _, rfl, -⟩ <;> rfl
      have hbc : hcells bv = some [bv] := by rcases hbv with ⟨rfl, -⟩ | ⟨_, _, rfl, -⟩ <;> rfl
      rw [show vMk [(0, 1), (1, 1)] [.lit (.slice none 0 0), .lit (.int .i64 0)] [(0, bv), (1, .lit (.int .i64 (N : Int)))] = some (.agg [bv, .lit (.int .i64 (N : Int))]) from by simp [vMk, hfill, hbc, hc_int]]
      simp only
      refine boxI (hc_agg _) fun F hF => ?_
      have hle10 := le_set_new (.cells [bv, .lit (.int .i64 (N : Int))]) (le_refl' w1) hF
      have hle11 := HS.le.trans hle9 hle10
      have hwF : v F = none := none_of_le hle9 hF
      have hgF : g F = none := none_of_le r8 hwF
      refine ⟨by rw [r7.ld (HS.le.trans r8 hle11), ldd1], ?_⟩
      -- the new disk has one more
      have hnn : ∀ y ∈ (ND D.room l done j).now, y.2 < (ND D.room l done j).files.length := fun y hy => by
        have := numbered_lt _ _ y hy
        rw [List.length_take] at this
        show y.2 < done.length
        omega
      obtain ⟨tag2, B2, fid2, c1, c2, c3⟩ := r7.newF (srt_names (srt_take hsl j) (numbered_names _ _)) List.Pairwise.nil hnn (fun y hy => by cases hy) (fun y hy => by cases hy) hgF
      have hdl : (ND D.room l done j).files.length = j := r3
      rw [hdl] at c1
      -- its row
      obtain ⟨g2, hg2, hg2F, hg2B, hg2k, hg2n, hg2le⟩ : ∃ g2 : HS, (∀ k ob, g k = some ob → g2 k = some ob) ∧ g2 F = some (.cells [bv, .lit (.int .i64 (N : Int))]) ∧ FRow g2 bv (fl.b.take N) ∧ (∀ q, accId bv = some q → (g.set F (.cells [nilV, .lit (.int .i64 0)])) q = none ∧ q ≠ F) ∧ (∀ k ob, v k = some ob → g k = none → g2 k = none) ∧ HS.le g2 (w1.set F (.cells [bv, .lit (.int .i64 (N : Int))])) := by
        rcases hbv with ⟨rfl, e⟩ | ⟨q0, f0, rfl, e2, e3⟩
        · refine ⟨g.set F (.cells [nilV, .lit (.int .i64 (N : Int))]), fun k ob hk => by rw [set_ne _ _ (fun e => by rw [e, hgF] at hk; cases hk)]; exact hk, set_at _ _ _, .inl ⟨rfl, e⟩, (fun q hq => by cases hq), fun k ob hk hk2 => ?_, le_set (HS.le.trans r8 hle9) _ _⟩
          rw [set_ne _ _ (ne_new hk hwF)]
          exact hk2
        · have hqF : q0 ≠ F := fun e => by rw [e, hF] at e2; cases e2
          have hgq : g q0 = none := none_of_le r8 e3
          refine ⟨(g.set q0 (.cells (bl (fl.b.take N)))).set F (.cells [_, .lit (.int .i64 (N : Int))]), fun k ob hk => ?_, set_at _ _ _, .inr (.inl ⟨q0, f0, rfl, by rw [set_ne _ _ hqF]; exact set_at _ _ _⟩), fun q hq => ?_, fun k ob hk hk2 => ?_, le_set (fun k ob hk => ?_) _ _⟩
          · rw [set_ne _ _ (fun e => by rw [e, hgF] at hk; cases hk), set_ne _ _ (fun e => by rw [e, hgq] at hk; cases hk)]
            exact hk
          · cases hq
            exact ⟨by rw [set_ne _ _ hqF]; exact hgq, hqF⟩
          · rw [set_ne _ _ (ne_new hk hwF), set_ne _ _ (ne_new hk e3)]
            exact hk2
          · by_cases e : k = q0
            · subst e; rw [set_at] at hk; cases hk; exact e2
            · rw [set_ne _ _ e] at hk; exact hle9 _ _ (r8 _ _ hk)
      obtain ⟨t1f, t2f⟩ := c2.ti j (by show j < (done ++ [fl0]).length; rw [List.length_append, r3]; simp)
      rw [c1] at t1f
      obtain ⟨tag3, B3, c4⟩ := c2.reF (h3 := g2) (i := j) (by show j < (done ++ [fl0]).length; rw [List.length_append, r3]; simp) (f := (⟨fl.b.take N, ((N : Nat) : Int)⟩ : Fl)) (Bi := bv)
        (fun k ob hk ht => by
          have : k ≠ F := fun e => ht (by rw [e]; exact t1f)
          rw [set_ne _ _ this] at hk
          exact hg2 _ _ hk) (by rw [c1]; exact hg2F) hg2B (fun q hq => ⟨.inl (hg2k q hq).1, by rw [c1]; exact (hg2k q hq).2⟩)
      -- its name
      rw [Try.underlying9]
      have hmw := (HS.le.trans (show HS.le g2 _ from hg2le) (le_refl' _)) _ _ c4.now
      simp only [hMapSet, strV, hmw]
      refine ⟨rfl, rfl, ?_⟩
      rw [show (Value.string ⟨x.1.toArray⟩) = encS x.1 from rfl, show (HV.ptr F 0) = .ptr (fid2 j) 0 from by rw [c1], nmF_put]
      have hnow : ((({ ND D.room l done j with files := (ND D.room l done j).files ++ [fl0] } : DK).setF j (⟨fl.b.take N, ((N : Nat) : Int)⟩ : Fl)).now) = numbered (l.take j) 0 := rfl
      rw [hnow]
      have hwl := with_last j hlast
      have hnext : withN (numbered (l.take j) 0) x.1 j = numbered (l.take (j + 1)) 0 := by
        rw [hwl, htk2, numbered_app]
        congr 3
        rw [List.length_take]
        omega
      have hnum : (if (nmF fid2 (numbered (l.take j) 0) (encS x.1)).isSome = true then (numbered (l.take j) 0).length else (numbered (l.take j) 0).length + 1) = (numbered (l.take (j + 1)) 0).length := by
        rw [nmF_at, Option.isSome_map, look_none.2 (fun y hy e => by have := hlast y hy; rw [e, bl_irrefl] at this; cases this), ← hnext, hwl]
        simp
      rw [hnum, hnext]
      obtain ⟨n1, n2⟩ := c4.nd
      have hfiles : (({ ND D.room l done j with files := (ND D.room l done j).files ++ [fl0] } : DK).setF j (⟨fl.b.take N, ((N : Nat) : Int)⟩ : Fl)).files = done ++ [(⟨fl.b.take N, ((N : Nat) : Int)⟩ : Fl)] := by
        show (done ++ [fl0]).set j _ = _
        rw [← r3, List.set_append_right _ _ (Nat.le_refl _), Nat.sub_self]
        rfl
      obtain ⟨tag4, c5⟩ := c4.re (h3 := g2.set mn' (.map .string (nmF fid2 (numbered (l.take (j + 1)) 0)) (numbered (l.take (j + 1)) 0).length)) (D3 := ND D.room l (done ++ [(⟨fl.b.take N, ((N : Nat) : Int)⟩ : Fl)]) (j + 1)) (mn3 := mn') (ms3 := ms') (A3 := A')
        (by rw [set_ne _ _ (Ne.symm n1)]; exact c4.at_) (set_at _ _ _) (by rw [set_ne _ _ (Ne.symm c4.ne)]; exact c4.safe) c4.ne
        (c4.acts.keep fun q ob hq hob => by rw [set_ne _ _ (c4.nA hq).2.1]; exact hob) hfiles.symm
        (fun k ob hk ht => by rw [set_ne _ _ (fun e => ht (by rw [e]; exact c4.td.2.1))]; exact hk) (.inr c4.td.2.1) (.inr c4.td.2.2) (fun q hq => ⟨.inr (c4.ta q hq).1, (c4.ta q hq).2⟩)
      have hqn : q ≠ mn' := fun e => by have := r7.now; rw [← e, r10] at this; cases this
      simp only [inc_i hlt2 (by omega)]
      refine hK2 (a4, pk4, j + 1, done ++ [(⟨fl.b.take N, ((N : Nat) : Int)⟩ : Fl)]) _ _ rfl ⟨hlt2, q2, by rw [List.length_append, r3]; rfl, by rw [r4, q5, List.append_assoc]; rfl, ?_, fun k ob hk => ?_, _, tag4, mn', ms', A', fid2, B3, c5, le_set hg2le _ _, fun k ob hk => ?_, ?_⟩ (by show l.length - (j + 1) < l.length - j; omega)
      · rw [set_ne _ _ hqn]
        exact hle11 _ _ r5
      · have hkm : k ≠ mn' := fun e => by have := r9 k ob hk; rw [e, r7.now] at this; cases this
        rw [set_ne _ _ hkm]
        exact hle11 _ _ (r6 _ _ hk)
      · have hkm : k ≠ mn' := fun e => by have := r9 k ob hk; rw [e, r7.now] at this; cases this
        rw [set_ne _ _ hkm]
        exact hg2n k ob (r6 _ _ hk) (r9 k ob hk)
      · rw [set_ne _ _ hqn]
        exact hg2n q _ r5 r10
    · obtain rfl : j = l.length := by omega
      simp only [hlt2, decide_false, hvNil, hvFld, ldd, dC, List.getElem?_cons_succ, List.getElem?_cons_zero]
      clear hK2
      refine (clone37 (r8 _ _ r7.now)).mono ?_
      rintro _ w1 ⟨q9, hq9, rfl, rfl⟩
      have hg9 : g q9 = none := none_of_le r8 hq9
      have hd9 : dd ≠ q9 := fun e => by rw [← e, r7.at_] at hg9; cases hg9
      have hm9 : mn' ≠ q9 := fun e => by rw [← e, r7.now] at hg9; cases hg9
      have hnowe : (ND D.room l done l.length).now = numbered l 0 := by show numbered (l.take l.length) 0 = _; rw [List.take_length]
      have hT1 := Turn.new r8 hq9 (.map .string (nmF fid' (ND D.room l done l.length).now) (ND D.room l done l.length).now.length)
      have hgd : (g.set q9 (.map .string (nmF fid' (ND D.room l done l.length).now) (ND D.room l done l.length).now.length)) dd = some (.cells (dC (ND D.room l done l.length) mn' ms' A')) := by rw [set_ne _ _ hd9]; exact r7.at_
      refine store1 (hT1.1 _ _ hgd) (by simp [dC]) (hc_map _) (ho_map _) rfl ?_
      have hT2 := hT1.trans (Turn.set hT1.1 hgd (.cells (dC { ND D.room l done l.length with safe := numbered l 0 } mn' q9 A')))
      obtain ⟨n1, n2⟩ := r7.nd
      obtain ⟨tag4, c5⟩ := r7.re (h3 := (g.set q9 (.map .string (nmF fid' (ND D.room l done l.length).now) (ND D.room l done l.length).now.length)).set dd (.cells (dC { ND D.room l done l.length with safe := numbered l 0 } mn' q9 A'))) (D3 := { ND D.room l done l.length with safe := numbered l 0 }) (mn3 := mn') (ms3 := q9) (A3 := A')
        (set_at _ _ _) (by rw [set_ne _ _ n1, set_ne _ _ hm9]; exact r7.now) (by rw [set_ne _ _ (Ne.symm hd9), set_at, hnowe]) hm9
        (r7.acts.keep fun q ob hq hob => by rw [set_ne _ _ (r7.nA hq).1, set_ne _ _ (fun e => by rw [e, hg9] at hob; cases hob)]; exact hob) rfl
        (fun k ob hk ht => by
          rw [set_ne _ _ (fun e => ht (by rw [e]; exact r7.td.1)), set_ne _ _ (fun e => by rw [e, hg9] at hk; cases hk)]
          exact hk) (.inr r7.td.2.1) (.inl hg9) (fun q hq => ⟨.inr (r7.ta q hq).1, (r7.ta q hq).2⟩)
      have hdone : crashF D.files l picks.tail = done := by
        rw [r4, List.drop_length]
        simp [crashF]
      rw [hdone]
      refine ⟨dd, _, rfl, c5.ps, hT2.1, fun k ob hk => (hT2.2 k ob (r9 k ob hk) (r6 _ _ hk)).1, fun k ob hk => (hT2.2 k ob (r9 k ob hk) (r6 _ _ hk)).2⟩
end
end Go.Proofs.Ythfoanmokcepcaa.DS
end
section
namespace Go.Proofs.Ythfoanmokcepcaa.DS
open Go.Proofs.Ythfoanmokcepcaa.H Go.Proofs.Ythfoanmokcepcaa.AS Go.Proofs.Ythfoanmokcepcaa.X0
set_option linter.unusedVariables false
set_option linter.unusedSimpArgs false
set_option maxRecDepth 100000
theorem crashF_len (files : List Fl) : ∀ (l : List Nm) (pk : List Int), (crashF files l pk).length = l.length
  | [], _ => rfl
  | x :: l, pk => by
    unfold crashF
    simp only
    split
    · rw [List.length_cons, crashF_len files l, List.length_cons]
    · rw [List.length_cons, crashF_len files l, List.length_cons]
theorem crashF_fl {K : Nat} {files : List Fl} (hf : ∀ f ∈ files, f.b.length ≤ K ∧ 0 ≤ f.safe ∧ f.safe ≤ f.b.length) : ∀ (l : List Nm) (pk : List Int), (∀ x ∈ l, x.2 < files.length) → ∀ f ∈ crashF files l pk, f.b.length ≤ K ∧ 0 ≤ f.safe ∧ f.safe ≤ f.b.length
  | [], _, _, f, h => by cases h
  | x :: l, pk, hl, f, h => by
    have hx := hf _ (getD_memD fl0 (hl x List.mem_cons_self))
    have ih := fun pk => crashF_fl hf l pk fun y hy => hl y (List.mem_cons_of_mem _ hy)
    unfold crashF at h
    simp only at h
    generalize files.getD x.2 fl0 = fl at *
    split at h
    · rename_i hlt
      obtain ⟨p1, p2⟩ := part_bd pk (n := (fl.b.length : Int) - fl.safe) (by omega)
      rcases List.mem_cons.1 h with rfl | h
      · simp only [List.length_take]
        omega
      · exact ih _ f h
    · rcases List.mem_cons.1 h with rfl | h
      · simp only [List.length_take]
        omega
      · exact ih _ f h
section
variable {K : Nat} {D : DK}
theorem Wf.crash (h : Wf K D) (hc : Ch D) (picks : List Int) (hk : 2 * K ≤ 1000000) : Wf (2 * K) (D.crash picks) := by
  have hl : ∀ (p : Nat), ((D.acts.take p).foldl applyA D.safe).length ≤ 2 * K := fun p => by
    have h1 := len_foldl (D.acts.take p) D.safe
    have h2 : (D.acts.take p).length ≤ D.acts.length := by rw [List.length_take]; omega
    have h3 := h.nsf
    have h4 := h.na
    omega
  unfold DK.crash
  generalize (part picks D.acts.length).toNat = p
  have hl' := hl p
  have hv := hc.val.take p
  have hs := srt_foldl h.ss (D.acts.take p)
  have hi := mem_foldl hv h.ns
  have hn := nl_foldl hv h.sl
  generalize (D.acts.take p).foldl applyA D.safe = l at *
  have hsn := srt_names hs (numbered_names l 0)
  have hnn : ∀ x ∈ numbered l 0, x.2 < (crashF D.files l picks.tail).length := fun x hx => by
    have := numbered_lt l 0 x hx
    rw [crashF_len]; omega
  have hnl : ∀ x ∈ numbered l 0, x.1.length ≤ 100 := fun x hx => by
    have : x.1 ∈ l.map Prod.fst := by rw [← numbered_names l 0]; exact List.mem_map_of_mem hx
    obtain ⟨y, hy, e⟩ := List.mem_map.1 this
    rw [← e]; exact hn y hy
  have hff := crashF_fl h.fl l picks.tail hi
  refine ⟨hsn, hsn, hnn, hnn, h.room, fun f hf => ?_, by show (crashF D.files l picks.tail).length ≤ _; rw [crashF_len]; exact hl', by show (numbered l 0).length ≤ _; rw [numbered_len]; exact hl', Nat.zero_le _, ⟨by show -((2 * K : Nat) : Int) ≤ 0; omega, by show (0 : Int) ≤ _; omega⟩, ⟨Int.le_refl 0, by show (0 : Int) ≤ _; omega⟩, hk, hnl, hnl, by show (numbered l 0).length ≤ _; rw [numbered_len]; exact hl'⟩
  obtain ⟨k1, k2⟩ := hff f hf
  exact ⟨by omega, k2⟩
theorem Ch.crash (D : DK) (picks : List Int) : Ch (D.crash picks) := ⟨rfl, trivial⟩
theorem wf_new {room : Int} (h : 0 ≤ room ∧ room ≤ 1099511627776) : Wf 0 (DK.new room) :=
  ⟨List.Pairwise.nil, List.Pairwise.nil, (by intro x hx; cases hx), (by intro x hx; cases hx), h, (by intro x hx; cases hx), Nat.le_refl _, Nat.le_refl _, Nat.le_refl _, ⟨Int.le_refl 0, by show (0 : Int) ≤ _; omega⟩, ⟨Int.le_refl 0, Int.le_refl 0⟩, by omega, (by intro x hx; cases hx), (by intro x hx; cases hx), Nat.le_refl _⟩
theorem ch_new (room : Int) : Ch (DK.new room) := ⟨rfl, trivial⟩
end
/-- A disk and one that came of it, side by side. -/
theorem Turn.side {s h t h' g : HS} (hT : Turn s h t h') (hg : HS.le g s) (hd : ∀ k ob, g k = some ob → h k = none) : HS.le g t ∧ ∀ k ob, g k = some ob → h' k = none := hT.other hg hd
theorem apart_sym {g h s : HS} (hh : HS.le h s) (hd : ∀ k ob, s k = some ob → g k = none) : ∀ k ob, g k = some ob → h k = none := fun k ob hk => by
  cases e : h k with
  | none => rfl
  | some o => rw [hd k o (hh _ _ e)] at hk; cases hk
theorem awake11 (s : HS) : HC Try.prog 11 [] s (fun v t => v = .lit (.bool true)) := by
  refine HC11 ?_
  unfold c11
  refine (new12 s).mono ?_
  intro v s1 hv
  rw [if_pos (by omega)] at hv
  obtain ⟨d, h0, rfl, hP0, hl0, hle0, -⟩ := hv
  simp only [vExtract, List.getElem?_cons_succ, List.getElem?_cons_zero, bindO]
  refine (new12 s1).mono ?_
  intro v s2 hv
  rw [if_neg (by omega)] at hv
  obtain ⟨rfl, rfl⟩ := hv
  simp only [vExtract, List.getElem?_cons_succ, List.getElem?_cons_zero]
  refine Join.of (fun xs t => t = s2 ∧ xs = [.lit (.bool false)]) ?_ ?_
  rotate_left
  · intro K9 hK9
    simp only [neq28, decide_true, Bool.not_true, hcond, eqp27]
    exact hK9 _ _ ⟨rfl, rfl⟩
  rintro _ t ⟨rfl, rfl⟩
  simp only [List.headD_cons, hcond]
  refine hBS_in (cs := bl [97, 98]) rfl fun X hX => ?_
  have hle1 := le_set_new (.cells (bl [97, 98])) (le_refl' t) hX
  have hsX : (t.set X (.cells (bl [97, 98]))) X = some (.cells (bl [97, 98])) := set_at _ _ _
  unfold hMark
  simp only [hsX]
  refine ⟨by omega, ?_⟩
  have hx0 : h0 X = none := none_of_le hl0 hX
  have hl1 := HS.le.trans hl0 hle1
  generalize t.set X (.cells (bl [97, 98])) = t1 at *
  have w0 := wf_new (room := 10) (by omega)
  have k0 := ch_new 10
  rw [show (HV.lit (.string { data := #[120] })) = strV [120] from rfl]
  refine (append13 hP0 hl1 w0 k0 [120] (b := [97, 98]) (.inr (.inr ⟨X, _, rfl, hsX, hx0⟩)) (by decide) (by omega)).mono ?_
  rintro _ t2 ⟨rfl, h1, hP1, hT1⟩
  have w1 := w0.append [120] [97, 98] (by simp)
  have k1 := k0.append [120] [97, 98]
  have e1 : ((DK.new 10).append [120] [97, 98]).2 = 0 := by decide
  rw [e1]
  refine (crash16 hP1 hT1.1 w1 k1 (a1 := nilV) (picks := []) (.inr ⟨rfl, rfl⟩)).mono ?_
  rintro _ t3 ⟨c1, g1, rfl, hc1, hgl1, hle3, hd1⟩
  have hT3 := hT1.trans (Turn.junk hT1.1 hle3)
  have hs1 := apart_sym hT1.1 hd1
  refine (sync14 hP1 hT3.1 w1 [120]).mono ?_
  rintro _ t4 ⟨-, h2, hP2, hT4⟩
  obtain ⟨hgl2, hs2⟩ := hT4.side hgl1 hs1
  have w2 := w1.sync [120] (by simp)
  have k2 := k1.sync [120]
  refine (syncDir15 hP2 hT4.1 w2).mono ?_
  rintro _ t5 ⟨-, h3, hP3, hT5⟩
  obtain ⟨hgl3, hs3⟩ := hT5.side hgl2 hs2
  have w3 := w2.syncDir (by simp)
  have k3 := k2.syncDir
  refine (crash16 hP3 hT5.1 w3 k3 (a1 := nilV) (picks := []) (.inr ⟨rfl, rfl⟩)).mono ?_
  rintro _ t6 ⟨c2, g2, rfl, hc2, hgl4, hle6, hd2⟩
  have hT6 := Turn.junk hT5.1 hle6
  have hs4 := apart_sym hT5.1 hd2
  refine Join.of (fun xs t => t = t6 ∧ xs = [.lit (.bool false)]) ?_ ?_
  rotate_left
  · intro K29 hK29
    simp only [eqp27]
    exact hK29 _ _ ⟨rfl, rfl⟩
  rintro _ t ⟨rfl, rfl⟩
  simp only [List.headD_cons, eql28, decide_true]
  unfold hMake
  simp only
  refine ⟨by omega, by omega, by omega, by decide, rfl, rfl, fun Y hY => ?_⟩
  rw [show zcells (.int .u8 0) ((9 : Int).toNat * 1) = bl [0, 0, 0, 0, 0, 0, 0, 0, 0] from rfl]
  have hle7 := le_set_new (.cells (bl [0, 0, 0, 0, 0, 0, 0, 0, 0])) (le_refl' t) hY
  have hT7 := hT6.trans (Turn.junk hT6.1 hle7)
  have hsY : (t.set Y (.cells (bl [0, 0, 0, 0, 0, 0, 0, 0, 0]))) Y = some (.cells (bl [0, 0, 0, 0, 0, 0, 0, 0, 0])) := set_at _ _ _
  have hy3 : h3 Y = none := none_of_le hT6.1 hY
  have hgl5 : HS.le g1 (t.set Y (.cells (bl [0, 0, 0, 0, 0, 0, 0, 0, 0]))) := HS.le.trans (HS.le.trans hgl3 hle6) hle7
  have hgl6 : HS.le g2 (t.set Y (.cells (bl [0, 0, 0, 0, 0, 0, 0, 0, 0]))) := HS.le.trans hgl4 hle7
  generalize t.set Y (.cells (bl [0, 0, 0, 0, 0, 0, 0, 0, 0])) = t7 at *
  refine (append13 hP3 hT7.1 w3 k3 [120] (b := [0, 0, 0, 0, 0, 0, 0, 0, 0]) (.inr (.inr ⟨Y, _, rfl, hsY, hy3⟩)) (by decide) (by simp)).mono ?_
  rintro _ t8 ⟨rfl, h4, hP4, hT8⟩
  obtain ⟨hgl7, -⟩ := hT8.side hgl5 hs3
  obtain ⟨hgl8, -⟩ := hT8.side hgl6 hs4
  have e2 : ((((((DK.new 10).append [120] [97, 98]).1.sync [120]).1.syncDir).1).append [120] [0, 0, 0, 0, 0, 0, 0, 0, 0]).2 = 4 := by decide
  rw [e2]
  simp only [eql28, decide_true]
  refine (size19 hc1 hgl7 (w1.crash k1 [] (by simp)) [120]).mono ?_
  rintro _ t9 ⟨rfl, rfl⟩
  have e3 : look ((((DK.new 10).append [120] [97, 98]).1.crash []).now) [120] = none := by decide
  rw [e3]
  simp only [eql3, decide_true]
  refine (size19 hc2 hgl8 (w3.crash k3 [] (by simp)) [120]).mono ?_
  rintro _ t10 ⟨rfl, rfl⟩
  have e4 : look (((((((DK.new 10).append [120] [97, 98]).1.sync [120]).1.syncDir).1).crash []).now) [120] = some 0 := by decide
  have e5 : (((((((DK.new 10).append [120] [97, 98]).1.sync [120]).1.syncDir).1).crash []).files.getD 0 fl0).b = [97, 98] := by decide
  rw [e4]
  simp only [e5]
  rfl
end Go.Proofs.Ythfoanmokcepcaa.DS
end
section
namespace Go.Proofs.Ythfoanmokcepcaa.DS
open Go.Proofs.Ythfoanmokcepcaa.H Go.Proofs.Ythfoanmokcepcaa.AS Go.Proofs.Ythfoanmokcepcaa.X0
set_option linter.unusedVariables false
set_option linter.unusedSimpArgs false
set_option maxRecDepth 100000
section
variable {D : DK}
theorem append_new {n : By} {b : List Int} (he : D.err [n] = 0) (hr : ¬ D.room - D.used < (b.length : Int)) (hk : look D.now n = none) : D.append n b = (({ D.ask with files := D.files ++ [fl0] }.name ⟨1, n, [], D.files.length⟩).setF D.files.length ⟨b, 0⟩, 0) := by
  unfold DK.append
  rw [if_neg (by rw [he]; exact fun h => h rfl), if_neg hr, hk]
theorem append_old {n : By} {b : List Int} {i : Nat} (he : D.err [n] = 0) (hr : ¬ D.room - D.used < (b.length : Int)) (hk : look D.now n = some i) : D.append n b = (D.ask.setF i ⟨(D.files.getD i fl0).b ++ b, (D.files.getD i fl0).safe⟩, 0) := by
  unfold DK.append
  rw [if_neg (by rw [he]; exact fun h => h rfl), if_neg hr, hk]
theorem append_full {n : By} {b : List Int} (he : D.err [n] = 0) (hr : D.room - D.used < (b.length : Int)) : D.append n b = (D.ask, 4) := by
  unfold DK.append
  rw [if_neg (by rw [he]; exact fun h => h rfl), if_pos hr]
theorem sync_old {n : By} {i : Nat} (he : D.err [n] = 0) (hk : look D.now n = some i) : D.sync n = (D.ask.setF i ⟨(D.files.getD i fl0).b, (D.files.getD i fl0).b.length⟩, 0) := by
  unfold DK.sync
  rw [if_neg (by rw [he]; exact fun h => h rfl), hk]
theorem syncDir_ok (he : D.err [] = 0) : D.syncDir = ({ D.ask with safe := D.now, acts := [] }, 0) := by
  unfold DK.syncDir
  rw [if_neg (by rw [he]; exact fun h => h rfl)]
end
/-- Bytes, as a text. -/
def toU (b : List Int) : By := b.map fun n => UInt8.ofNat n.toNat
theorem bytesOf_bl : ∀ b : List Int, bytesOf (bl b) = some (toU b)
  | [] => rfl
  | x :: b => by
    have ih := bytesOf_bl b
    unfold bytesOf bl toU at *
    simp only [List.map_cons, List.mapM_cons, ih]
    rfl
theorem toStr {s : HS} {x : HV} {b : List Int} (hx : lcells s 1 x = some (bl b)) (hs : isStrHV x = false) : (if isStrHV x = true then none else vToStr s x) = some (strV (toU b)) := by
  rw [if_neg (by rw [hs]; exact Bool.false_ne_true)]
  unfold vToStr
  rw [hx, Option.bind_some, bytesOf_bl]
  rfl
theorem toStr_by (s : HS) (b : List Int) : (if isStrHV (byV b) = true then none else vToStr s (byV b)) = some (strV (toU b)) := toStr (by simp [lcells, byV]) rfl
theorem toStr_rv {s : HS} {x : HV} {b : List Int} (hx : RV x b) : (if isStrHV x = true then none else vToStr s x) = some (strV (toU b)) := by
  rcases hx with rfl | ⟨rfl, rfl⟩
  · exact toStr_by s b
  · exact toStr rfl rfl
/-- The end of a law's act: its code, and what it leaves. -/
theorem did_eq {s h t : HS} {d : Nat} {r : DK × Int} {D' : DK} {e : Int} {v : HV} (hd : Did2 s h t d r v) (he : r = (D', e)) : v = .lit (.int .i64 e) ∧ ∃ h', PS h' d D' ∧ Turn s h t h' := by
  subst he
  exact hd
end Go.Proofs.Ythfoanmokcepcaa.DS
end
section
namespace Go.Proofs.Ythfoanmokcepcaa.DS
open Go.Proofs.Ythfoanmokcepcaa.H Go.Proofs.Ythfoanmokcepcaa.AS Go.Proofs.Ythfoanmokcepcaa.X0
set_option linter.unusedVariables false
set_option linter.unusedSimpArgs false
set_option maxRecDepth 100000
theorem RV.len {x : HV} {l : List Int} (h : RV x l) (e : Nat) (u : HS) : vLenT (some (.slice e)) u x = some (.lit (.int .i64 ((l.length : Nat) : Int))) := by
  rcases h with rfl | ⟨rfl, rfl⟩ <;> rfl
end Go.Proofs.Ythfoanmokcepcaa.DS
end
section
namespace Go.Proofs.Ythfoanmokcepcaa.DS
open Go.Proofs.Ythfoanmokcepcaa.H Go.Proofs.Ythfoanmokcepcaa.AS Go.Proofs.Ythfoanmokcepcaa.X0
set_option linter.unusedVariables false
set_option linter.unusedSimpArgs false
set_option maxRecDepth 100000
/-- A disk of one's own. -/
def Own (s : HS) (d : Nat) (D : DK) (K : Nat) : Prop := ∃ h, PS h d D ∧ HS.le h s ∧ Wf K D ∧ Ch D
section
variable {s : HS} {d K : Nat} {D D' : DK} {e : Int} {k : HV → HS → Prop}
theorem Own.up (o : Own s d D K) {t : HS} (hle : HS.le s t) : Own t d D K := let ⟨h, a, b, c⟩ := o; ⟨h, a, HS.le.trans b hle, c⟩
theorem Own.append (o : Own s d D K) (a : By) {x : HV} {b : List Int} (hx : (∃ f, x = .list 1 b.length (bl b) f) ∨ x = nilV ∧ b = []) (hb : b.length ≤ 2000) (hK : K + b.length + 3 ≤ 900000) (he : D.append a b = (D', e)) (hk : ∀ t, Own t d D' (K + b.length + 3) → k (.lit (.int .i64 e)) t) : HC Try.prog 13 [.ptr d 0, strV a, x] s k := by
  obtain ⟨h, h1, h2, h3, h4⟩ := o
  refine (append13 h1 h2 h3 h4 a (b := b) (hx.elim .inl fun h => .inr (.inl h)) (by omega) (by omega)).mono ?_
  intro v t hv
  obtain ⟨rfl, h', hP, hT⟩ := did_eq hv he
  have w := h3.append a b (by omega)
  have c := h4.append a b
  rw [he] at w c
  exact hk t ⟨h', hP, hT.1, w, c⟩
theorem Own.view (o : Own s d D K) (a : By) {b : List Int} (hb : b.length ≤ 2000) (hK : K + b.length + 3 ≤ 900000) (he : D.append a b = (D', e)) (hk : ∀ t, Own t d D' (K + b.length + 3) → k (.lit (.int .i64 e)) t) {X : Nat} (hX : s X = none) (f : Bool) : HC Try.prog 13 [.ptr d 0, strV a, .view X 0 1 b.length f] (s.set X (.cells (bl b))) k := by
  obtain ⟨h, h1, h2, h3, h4⟩ := o
  refine (append13 h1 (HS.le.trans h2 (le_set_new _ (le_refl' s) hX)) h3 h4 a (b := b) (.inr (.inr ⟨X, f, rfl, set_at _ _ _, none_of_le h2 hX⟩)) (by omega) (by omega)).mono ?_
  intro v t hv
  obtain ⟨rfl, h', hP, hT⟩ := did_eq hv he
  have w := h3.append a b (by omega)
  have c := h4.append a b
  rw [he] at w c
  exact hk t ⟨h', hP, hT.1, w, c⟩
theorem Own.x (o : Own s d D K) (a : By) (hK : K + 4 ≤ 900000) (he : D.append a [120] = (D', e)) (hk : ∀ t, Own t d D' (K + 4) → k (.lit (.int .i64 e)) t) : hBS s 1 1 [.lit (.int .u8 0)] [(0, (.lit (.int .u8 120)))] (fun x57 s58 => hMark s58 x57 (fun x59 s60 => HC Try.prog 13 [.ptr d 0, strV a, x59] s60 k)) := by
  refine hBS_in (cs := bl [120]) rfl fun X hX => ?_
  unfold hMark
  simp only [set_at]
  exact ⟨by omega, o.view a (b := [120]) (by decide) (by show K + 1 + 3 ≤ _; omega) he hk hX true⟩
theorem Own.truncate (o : Own s d D K) (a : By) {n : Int} (hn : 0 ≤ n ∧ n ≤ 2000) (hK : K + 1 ≤ 900000) (he : D.truncate a n = (D', e)) (hk : ∀ t, Own t d D' (K + 1) → k (.lit (.int .i64 e)) t) : HC Try.prog 24 [.ptr d 0, strV a, .lit (.int .i64 n)] s k := by
  obtain ⟨h, h1, h2, h3, h4⟩ := o
  refine (truncate24 h1 h2 h3 a n (by omega)).mono ?_
  intro v t hv
  obtain ⟨rfl, h', hP, hT⟩ := did_eq hv he
  have w := h3.truncate a n (by omega)
  have c := h4.truncate a n
  rw [he] at w c
  exact hk t ⟨h', hP, hT.1, w, c⟩
theorem Own.remove (o : Own s d D K) (a : By) (hK : K + 2 ≤ 900000) (he : D.remove a = (D', e)) (hk : ∀ t, Own t d D' (K + 2) → k (.lit (.int .i64 e)) t) : HC Try.prog 25 [.ptr d 0, strV a] s k := by
  obtain ⟨h, h1, h2, h3, h4⟩ := o
  refine (remove25 h1 h2 h3 a).mono ?_
  intro v t hv
  obtain ⟨rfl, h', hP, hT⟩ := did_eq hv he
  have w := h3.remove a (by omega)
  have c := h4.remove a
  rw [he] at w c
  exact hk t ⟨h', hP, hT.1, w, c⟩
theorem Own.used (o : Own s d D K) {n : Int} (he : D.used = n) (hk : ∀ t, Own t d D K → k (.lit (.int .i64 n)) t) : HC Try.prog 21 [.ptr d 0] s k := by
  obtain ⟨h, h1, h2, h3, h4⟩ := o
  have h1' := h1
  obtain ⟨_, _, _, _, _, _, hP⟩ := h1'
  refine (used21 hP h2 h3).mono ?_
  rintro _ t ⟨rfl, hle⟩
  rw [he]
  exact hk t ⟨h, h1, HS.le.trans h2 hle, h3, h4⟩
end
end Go.Proofs.Ythfoanmokcepcaa.DS
end
section
namespace Go.Proofs.Ythfoanmokcepcaa.DS
end Go.Proofs.Ythfoanmokcepcaa.DS
end
section
namespace Go.Proofs.Ythfoanmokcepcaa.DS
open Go.Proofs.Ythfoanmokcepcaa.H Go.Proofs.Ythfoanmokcepcaa.AS Go.Proofs.Ythfoanmokcepcaa.X0
set_option linter.unusedVariables false
set_option linter.unusedSimpArgs false
set_option maxRecDepth 100000
def nmC (x : Nm) : List HV := [strV x.1, .lit (.int .i64 (x.2 : Int))]
def filC (f : Fl) : List HV := [byV f.b, .lit (.int .i64 f.safe)]
def acC (a : AC) : List HV := [.lit (.int .i64 a.kind), strV a.a, strV a.b, .lit (.int .i64 (a.f : Int))]
theorem nmC_len (x : Nm) : (nmC x).length = 2 := rfl
theorem filC_len (x : Fl) : (filC x).length = 2 := rfl
theorem acC_len (x : AC) : (acC x).length = 4 := rfl
theorem fldE (k : Nat) (cs : List HV) : vField k (.elt cs 0) = some (.elt cs k) := by simp [vField]
section
variable {s : HS}
theorem find52 (l : List Nm) (hl : l.length ≤ 1000000) (n : By) (s : HS) : HC Try.prog 52 [rowL nmC 2 l, strV n] s (fun v t => v = .lit (.int .i64 (idxI (fun x : Nm => x.1 == n) l)) ∧ t = s) := by
  refine HC52 ?_
  unfold c52
  have ln : ∀ u, vLenT (Try.prog.underlying 65) u (rowL nmC 2 l) = some (.lit (.int .i64 ((l.length : Nat) : Int))) := fun u => rfl
  have i1 := fun i (hi : i < l.length) => idx_rowL nmC_len nm0 l .i64 hi
  refine HLoop.ghost (σ := Nat) (fun i => [.lit (.int .i64 (i : Int))]) (fun i t => t = s ∧ i ≤ l.length ∧ ∀ x ∈ l.take i, (x.1 == n) = false) (fun i => l.length - i) 0 rfl ⟨rfl, Nat.zero_le _, by simp⟩ ?_
  rintro i t K ⟨rfl, h1, h2⟩ hK
  simp only [List.headD_cons, ln, lss_i, bindO]
  by_cases hi : i < l.length
  · have htk := take_succ' nm0 l hi
    simp only [hi, decide_true, hcond, i1 i hi, hvFld, fldE, load_elt1, nmC, List.getElem?_cons_succ, List.getElem?_cons_zero, eql_s]
    by_cases he : (l.getD i nm0).1 = n
    · simp only [he, decide_true]
      refine ⟨?_, by trivial⟩
      rw [idxI_at hi h2 (by rw [getD_get nm0 l hi] at he; simpa using he)]
    · simp only [he, decide_false, inc_i hi (by omega)]
      refine hK (i + 1) _ _ rfl ⟨rfl, hi, fun x hx => ?_⟩ (by show l.length - (i + 1) < l.length - i; omega)
      rw [htk] at hx
      rcases List.mem_append.1 hx with hx | hx
      · exact h2 x hx
      · rw [List.mem_singleton.1 hx]
        simpa using he
  · simp only [hi, decide_false, hcond]
    have : i = l.length := by omega
    subst this
    rw [List.take_length] at h2
    exact ⟨by rw [idxI_none h2], by trivial⟩
theorem without66 (l : List Nm) (hl : l.length ≤ 1000000) (n : By) (s : HS) : HC Try.prog 66 [rowL nmC 2 l, strV n] s (fun v t => v = rowL nmC 2 (without l n) ∧ t = s) := by
  refine HC.up (HC66 ?_)
  unfold c66
  have ln : ∀ u, vLenT (Try.prog.underlying 65) u (rowL nmC 2 l) = some (.lit (.int .i64 ((l.length : Nat) : Int))) := fun u => rfl
  have i1 := fun i (hi : i < l.length) => idx_rowL nmC_len nm0 l .i64 hi
  refine HLoop.ghost (σ := HV × Nat) (fun x => [x.1, .lit (.int .i64 (x.2 : Int))]) (fun x t => x.2 ≤ l.length ∧ HS.le s t ∧ Acc0 s t 2 x.1 (without (l.take x.2) n).length (rows nmC (without (l.take x.2) n))) (fun x => l.length - x.2) (nilV, 0) rfl ⟨Nat.zero_le _, le_refl' s, .inl (Acc.nil _ _ _)⟩ ?_
  rintro ⟨A, i⟩ t K ⟨h1, h2, h3⟩ hK
  simp only at h1 h2 h3
  simp only [List.headD_cons, List.tail_cons, ln, lss_i, bindO]
  by_cases hi : i < l.length
  · have htk := take_succ' nm0 l hi
    simp only [hi, decide_true, hcond]
    have hlen : (without (l.take i) n).length ≤ 1000000 := by
      have h4 : (without (l.take i) n).length ≤ (l.take i).length := List.length_filter_le _ _
      have h5 : (l.take i).length ≤ l.length := List.length_take_le' _ _
      omega
    refine Join.of (fun xs u => ∃ A', xs = [A'] ∧ HS.le s u ∧ Acc0 s u 2 A' (without (l.take (i + 1)) n).length (rows nmC (without (l.take (i + 1)) n))) ?_ ?_
    · rintro _ u ⟨A', rfl, g1, g2⟩
      simp only [List.headD_cons, inc_i hi (by omega)]
      exact hK (A', i + 1) _ _ rfl ⟨hi, g1, g2⟩ (by show l.length - (i + 1) < l.length - i; omega)
    · intro K6 hK6
      simp only [i1 i hi, hvFld, fldE, load_elt1, nmC, List.getElem?_cons_succ, List.getElem?_cons_zero, neq_s]
      by_cases he : (l.getD i nm0).1 = n
      · simp only [he, decide_true, Bool.not_true]
        refine hK6 _ _ ⟨A, rfl, h2, ?_⟩
        rw [htk]
        unfold without at h3 ⊢
        rw [List.filter_append, List.filter_cons_of_neg (by simpa using he)]
        simpa using h3
      · simp only [he, decide_false, Bool.not_false]
        rw [show vLoad t (.elt [strV (l.getD i nm0).1, .lit (.int .i64 ((l.getD i nm0).2 : Int))] 0) 2 true = some (.agg (nmC (l.getD i nm0))) from load_elt t _ 2 rfl]
        refine lit_app h3 h2 (vs := nmC (l.getD i nm0)) rfl rfl rfl ⟨by omega, by omega⟩ fun A' u g1 g2 => ?_
        refine hK6 _ _ ⟨A', rfl, g2, ?_⟩
        have e : without (l.take (i + 1)) n = without (l.take i) n ++ [l.getD i nm0] := by
          rw [htk]
          unfold without
          rw [List.filter_append, List.filter_cons_of_pos (by simpa using he)]
          rfl
        rw [e, List.length_append, rows_app, rows_one]
        exact g1
  · simp only [hi, decide_false, hcond]
    obtain rfl : i = l.length := by omega
    rw [List.take_length] at h3
    exact ⟨_, s, acc0_upL h3 h2, rfl, rfl⟩
/-- Where a name stands in a sorted row. -/
theorem with_at {l : List Nm} (hs : Srt l) {n : By} (hn : ∀ x ∈ l, x.1 ≠ n) {k : Nat} (hk : k ≤ l.length) (h1 : ∀ x ∈ l.drop k, bl_ n x.1 = true) (h2 : k = 0 ∨ bl_ n (l.getD (k - 1) nm0).1 = false) (i : Nat) :
    l.take k ++ [(n, i)] ++ l.drop k = withN l n i := by
  have h3 : ∀ x ∈ l.take k, bl_ x.1 n = true := by
    rcases h2 with rfl | h2
    · intro x hx; simp at hx
    · rcases Nat.eq_zero_or_pos k with rfl | hk0
      · intro x hx; simp at hx
      obtain ⟨j, rfl⟩ : ∃ j, k = j + 1 := ⟨k - 1, by omega⟩
      rw [Nat.add_sub_cancel] at h2
      have hj : j < l.length := hk
      have hy := hn _ (getD_memD nm0 hj)
      have hyn : bl_ (l.getD j nm0).1 n = true := by
        rcases bl_or hy with h | h
        · exact h
        · rw [h] at h2; cases h2
      have hp : (l.take (j + 1)).Pairwise fun x y => bl_ x.1 y.1 = true := List.Pairwise.sublist (List.take_sublist _ _) hs
      rw [take_succ' nm0 l hj] at hp ⊢
      intro x hx
      rcases List.mem_append.1 hx with hx | hx
      · exact bl_trans _ _ _ ((List.pairwise_append.1 hp).2.2 x hx _ (List.mem_singleton.2 rfl)) hyn
      · rw [List.mem_singleton.1 hx]
        exact hyn
  unfold withN
  rw [List.append_assoc, List.singleton_append]
  congr 1
  · conv => rhs; rw [← List.take_append_drop k l]
    rw [List.filter_append, List.filter_eq_self.2 h3, List.filter_eq_nil_iff.2 (fun x hx => by rw [bl_asymm (h1 x hx)]; exact Bool.false_ne_true), List.append_nil]
  · congr 1
    conv => rhs; rw [← List.take_append_drop k l]
    rw [List.filter_append, List.filter_eq_self.2 h1, List.filter_eq_nil_iff.2 (fun x hx => by rw [bl_asymm (h3 x hx)]; exact Bool.false_ne_true), List.nil_append]
end
end Go.Proofs.Ythfoanmokcepcaa.DS
end
section
namespace Go.Proofs.Ythfoanmokcepcaa.DS
open Go.Proofs.Ythfoanmokcepcaa.H Go.Proofs.Ythfoanmokcepcaa.AS Go.Proofs.Ythfoanmokcepcaa.X0
set_option linter.unusedVariables false
set_option linter.unusedSimpArgs false
set_option maxRecDepth 100000
/-- append(append(append([]T{}, p...), x), r...): the three orders. -/
theorem ins3p {t : HS} {sz by_ : Nat} {zs vs cs1 cs3 : List HV} {n1 n3 : Nat} {p r x : HV} {K : HV → HS → Prop} (hp : ∀ s, lcells s sz p = some cs1) (hp1 : llen p = n1) (hp2 : cs1.length = n1 * sz) (hr : ∀ s, lcells s sz r = some cs3) (hr1 : llen r = n3) (hr2 : cs3.length = n3 * sz)
    (hx : hcells x = some vs) (hv : vs.length = sz) (hz : zs.length = sz) (hroom : room (n1 + 1 + n3) by_) (hroom1 : room n1 by_) (hroom2 : room (n1 + 1) by_)
    (hK : ∀ A u, Acc0 t u sz A (n1 + 1 + n3) (cs1 ++ vs ++ cs3) → HS.le t u → K A u) :
    (hBS t sz 0 [] [] (fun x27 s28 => hAppend s28 sz by_ x27 p (fun x29 s30 => hBS s30 sz 1 zs [(0, x)] (fun x31 s32 => hAppend s32 sz by_ x29 x31 (fun x33 s34 => hAppend s34 sz by_ x33 r K))) ∧ (hBS s28 sz 1 zs [(0, x)] (fun x38 s39 => hAppend s39 sz by_ x27 p (fun x40 s41 => hAppend s41 sz by_ x40 x38 (fun x42 s43 => hAppend s43 sz by_ x42 r K)))))) ∧ (hBS t sz 1 zs [(0, x)] (fun x47 s48 => hBS s48 sz 0 [] [] (fun x49 s50 => hAppend s50 sz by_ x49 p (fun x51 s52 => hAppend s52 sz by_ x51 x47 (fun x53 s54 => hAppend s54 sz by_ x53 r K))))) := by
  have last : ∀ {b u : HS} {A : HV}, HS.le t b → Acc0 b u sz A (n1 + 1) (cs1 ++ vs) → HS.le b u → hAppend u sz by_ A r K := fun hb h1 h2 =>
    acc0_appS h1 h2 (hr _) hr1 hr2 hroom fun A' u' g1 g2 => hK A' u' (g1.base hb) (HS.le.trans hb g2)
  refine ⟨hBS0 fun Y hY => ⟨?_, ?_⟩, hBS_lit hx hv hz fun id hid => hBS0 fun Y hY => ?_⟩
  · refine app_empty (b := t) (le_set_new _ (le_refl' t) hY) hY (set_at _ _ _) (hp _) hp1 hp2 hroom1 fun A u g1 g2 => ?_
    exact lit_app g1 g2 hx hv hz hroom2 fun A' u' k1 k2 => last (le_refl' t) k1 k2
  · refine hBS_lit hx hv hz fun id hid => ?_
    have htid : t id = none := by
      have : id ≠ Y := by rintro rfl; rw [set_at] at hid; cases hid
      rw [set_ne _ _ this] at hid; exact hid
    have hYi : Y ≠ id := by rintro rfl; rw [set_at] at hid; cases hid
    refine app_empty (b := t.set id (.cells vs)) (le_setBoth (le_set_new _ (le_refl' t) hY) _ _) (by rw [set_ne _ _ hYi]; exact hY) (by rw [set_ne _ _ hYi, set_at]) (hp _) hp1 hp2 hroom1 fun A u g1 g2 => ?_
    refine acc0_appS (k := 1) g1 g2 (lit_cells (g2 _ _ (set_at _ _ _)) hv) rfl (by omega) hroom2 fun A' u' k1 k2 => ?_
    exact last (le_set_new _ (le_refl' t) htid) k1 k2
  · refine app_empty (b := t.set id (.cells vs)) (le_set_new _ (le_refl' _) hY) hY (set_at _ _ _) (hp _) hp1 hp2 hroom1 fun A u g1 g2 => ?_
    refine acc0_appS (k := 1) g1 g2 (lit_cells (g2 _ _ (set_at _ _ _)) hv) rfl (by omega) hroom2 fun A' u' k1 k2 => ?_
    exact last (le_set_new _ (le_refl' t) hid) k1 k2
theorem hbox_intro {s : HS} {v : HV} {cs : List HV} {K : HV → HS → Prop} (hc : hcells v = some cs) (h : ∀ id, s id = none → K (.ptr id 0) (s.set id (.cells cs))) : hBox s v K := by
  unfold hBox
  rw [hc]
  exact h
section
variable {s : HS}
theorem without_ne (l : List Nm) (n : By) : ∀ x ∈ without l n, x.1 ≠ n := fun x hx => by
  have := (List.mem_filter.1 hx).2
  simpa using this
theorem withN_without (l : List Nm) (n : By) (i : Nat) : withN (without l n) n i = withN l n i := by
  unfold withN without
  rw [List.filter_filter, List.filter_filter]
  congr 1
  · refine List.filter_congr fun x hx => ?_
    cases e : bl_ x.1 n with
    | false => rfl
    | true => simpa using bl_ne e
  · congr 1
    refine List.filter_congr fun x hx => ?_
    cases e : bl_ n x.1 with
    | false => rfl
    | true => simpa using fun e' => bl_ne e e'.symm
theorem gtr_s (a b : By) : vBin .gtr (strV a) (strV b) = some (.lit (.bool (bl_ b a))) := by
  have h : bl_ b a = !(bl_ a b || a == b) := by
    cases e : bl_ b a with
    | true =>
      rw [bl_asymm e]
      have := bl_ne e
      simpa using fun e' => this e'.symm
    | false =>
      cases e2 : bl_ a b with
      | true => rfl
      | false =>
        rcases bl_tri a b e2 with h | h
        · simp [h]
        · rw [h] at e; cases e
  rw [h]
  simp only [vBin, strV, toL]
theorem lcL {α : Type} (enc : α → List HV) (sz : Nat) (l : List α) (u : HS) : lcells u sz (rowL enc sz l) = some (rows enc l) := by simp [lcells, rowL]
theorem with65 (l : List Nm) (hl : l.length ≤ 1000000) (hs : Srt l) (n : By) (f : Nat) (s : HS) : HC Try.prog 65 [rowL nmC 2 l, strV n, .lit (.int .i64 (f : Int))] s (fun v t => v = rowL nmC 2 (withN l n f) ∧ t = s) := by
  refine HC.up (HC65 ?_)
  unfold c65
  refine (without66 l hl n s).mono ?_
  rintro _ t ⟨rfl, rfl⟩
  have hl1 : (without l n).length ≤ 1000000 := Nat.le_trans (List.length_filter_le _ _) hl
  have hs1 := srt_without hs n
  have hn1 := without_ne l n
  rw [← withN_without]
  generalize without l n = l1 at *
  have ln : ∀ u, vLenT (Try.prog.underlying 65) u (rowL nmC 2 l1) = some (.lit (.int .i64 ((l1.length : Nat) : Int))) := fun u => rfl
  have i1 := fun i (hi : i < l1.length) => idx_rowL nmC_len nm0 l1 .i64 hi
  simp only [ln, bindO]
  refine HLoop.ghost (σ := Nat) (fun k => [.lit (.int .i64 (k : Int))]) (fun k u => u = t ∧ k ≤ l1.length ∧ ∀ x ∈ l1.drop k, bl_ n x.1 = true) (fun k => k) l1.length rfl ⟨rfl, Nat.le_refl _, by simp⟩ ?_
  rintro k u K ⟨rfl, h1, h2⟩ hK
  simp only [List.headD_cons]
  refine Join.of (fun xs v => v = u ∧ xs = [.lit (.bool (decide (0 < k) && bl_ n (l1.getD (k - 1) nm0).1))]) ?_ ?_
  rotate_left
  · intro K7 hK7
    simp only [gtr_n]
    by_cases hk : 0 < k
    · have hk' : (0 : Int) < (k : Int) := by omega
      simp only [hk', decide_true, hcond, sub_n (a := (k : Int)) (b := 1) (by omega) (by omega)]
      rw [show (k : Int) - 1 = ((k - 1 : Nat) : Int) from by omega]
      simp only [i1 (k - 1) (by omega), fldE, load_elt1, nmC, List.getElem?_cons_succ, List.getElem?_cons_zero, gtr_s]
      exact hK7 _ _ ⟨rfl, by simp [hk]⟩
    · have hk' : ¬ (0 : Int) < (k : Int) := by omega
      simp only [hk', decide_false, hcond]
      exact hK7 _ _ ⟨rfl, by simp [hk]⟩
  rintro _ v ⟨rfl, rfl⟩
  simp only [List.headD_cons]
  by_cases hg : (decide (0 < k) && bl_ n (l1.getD (k - 1) nm0).1) = true
  · obtain ⟨g1, g2⟩ := Bool.and_eq_true_iff.1 hg
    have g1 := of_decide_eq_true g1
    simp only [hg, hcond, sub_n (a := (k : Int)) (b := 1) (by omega) (by omega)]
    refine hK (k - 1) _ _ (by rw [show (k : Int) - 1 = ((k - 1 : Nat) : Int) from by omega]) ⟨rfl, by omega, fun x hx => ?_⟩ (by show k - 1 < k; omega)
    rw [← List.getElem_cons_drop (show k - 1 < l1.length by omega), show k - 1 + 1 = k from by omega] at hx
    rcases List.mem_cons.1 hx with rfl | hx
    · rw [getD_get nm0 l1 (show k - 1 < l1.length by omega)] at g2; exact g2
    · exact h2 x hx
  · have hg' := eq_false_of_ne_true hg
    simp only [hg', hcond, slice_rowL_hi nmC_len l1 .i64 h1, slice_rowL_lo nmC_len l1 .i64 h1]
    rw [show vMk [(0, 1), (1, 1)] [.lit (.string .empty), .lit (.int .i64 0)] [(0, strV n), (1, .lit (.int .i64 (f : Int)))] = some (.agg (nmC (n, f))) from rfl]
    have hlt := List.length_take (i := k) (l := l1)
    have hld := List.length_drop (i := k) (l := l1)
    refine ins3p (vs := nmC (n, f)) (n1 := (l1.take k).length) (n3 := (l1.drop k).length) (lcL _ _ _) rfl (rows_len nmC_len _) (lcL _ _ _) rfl (rows_len nmC_len _) rfl rfl rfl ⟨by omega, by omega⟩ ⟨by omega, by omega⟩ ⟨by omega, by omega⟩ fun A w k1 k2 => ?_
    refine ⟨_, v, acc0_upL k1 k2, ?_, rfl⟩
    rw [← with_at hs1 hn1 h1 h2 (by
      rcases Nat.eq_zero_or_pos k with h | h
      · exact .inl h
      · right
        rw [decide_eq_true h, Bool.true_and] at hg'
        exact hg')]
    unfold rowL
    rw [rows_app, rows_app, rows_one]
    congr 1
    simp
    omega
theorem apply55 (l : List Nm) (hl : l.length ≤ 1000000) (hs : Srt l) (a : AC) (s : HS) : HC Try.prog 55 [rowL nmC 2 l, .agg (acC a)] s (fun v t => v = rowL nmC 2 (applyA l a) ∧ t = s) := by
  refine HC.weaken (HC55 ?_)
  unfold c55
  refine hbox_intro (hc_agg _) fun p hp => ?_
  have hle := le_set_new (.cells (acC a)) (le_refl' s) hp
  have ld : ∀ u, HS.le (s.set p (.cells (acC a))) u → ∀ k, vLoad u (.ptr p k) 1 false = (acC a)[k]? := fun u hu k => ld_at (hu _ _ (set_at _ _ _)) k
  have ld1 := ld _ (le_refl' _)
  generalize s.set p (.cells (acC a)) = s1 at *
  unfold applyA
  simp only [hvFld, ld1, acC, List.getElem?_cons_succ, List.getElem?_cons_zero, bindO, eql3]
  by_cases h1 : a.kind = 1
  · simp only [h1, decide_true, hcond, if_true]
    refine (with65 l hl hs a.a a.f s1).mono ?_
    rintro _ t ⟨rfl, rfl⟩
    exact ⟨s, hle, rfl, rfl⟩
  · by_cases h2 : a.kind = 2
    · simp only [h1, h2, decide_false, decide_true, hcond, if_true, if_false, show ¬ (2 : Int) = 1 from by omega]
      refine (without66 l hl a.a s1).mono ?_
      rintro _ t ⟨rfl, rfl⟩
      refine ⟨ld1 3, ld1 2, ?_⟩
      refine (with65 _ (Nat.le_trans (List.length_filter_le _ _) hl) (srt_without hs _) a.b a.f t).mono ?_
      rintro _ t' ⟨rfl, rfl⟩
      exact ⟨s, hle, rfl, rfl⟩
    · simp only [h1, h2, decide_false, hcond, if_false]
      refine (without66 l hl a.a s1).mono ?_
      rintro _ t ⟨rfl, rfl⟩
      exact ⟨s, hle, rfl, rfl⟩
end
end Go.Proofs.Ythfoanmokcepcaa.DS
end
section
namespace Go.Proofs.Ythfoanmokcepcaa.DS
open Go.Proofs.Ythfoanmokcepcaa.H Go.Proofs.Ythfoanmokcepcaa.AS Go.Proofs.Ythfoanmokcepcaa.X0 Go.RowKit
set_option linter.unusedVariables false
set_option linter.unusedSimpArgs false
set_option maxRecDepth 100000
/-- Values of an object, told otherwise. -/
theorem cells_re {cs cs' : List HV} (hl : cs'.length = cs.length) (ho : Ones cs') (h : ∀ (j : Nat) x', cs'[j]? = some x' → ∃ x, cs[j]? = some x ∧ ∀ (m : M) v, Rep m x v → Rep m x' v) (m : M) (l : H.Loc) (w : World) (hc : ObjAt m (.cells cs) l w) : ObjAt m (.cells cs') l w := by
  obtain ⟨h1, c, t, fr, h2, h3, h4, h5, h6⟩ := hc
  refine ⟨ho, c, t, fr, h2, h3, by rw [hl]; exact h4, h5, fun j x' hj => ?_⟩
  obtain ⟨x, hx, hr⟩ := h j x' hj
  exact hr m _ (h6 j x hx)
theorem rep_nil {m : M} {v : Value} (sz : Nat) (h : Rep m nilV v) : Rep m (.list sz 0 [] false) v := by
  cases h
  exact .list0 sz none 0 false (fun h => by cases h)
/-- A row of an object's lies still from here on, and all that is not s's is dropped. -/
theorem canR {t s : HS} {r : Nat} {pre post : List HV} {A : HV} {sz n : Nat} {cs : List HV} (hr : t r = some (.cells (pre ++ A :: post))) (ho : Ones (pre ++ post))
    (hA : (A = nilV ∧ n = 0 ∧ cs = []) ∨ ∃ q f, A = .view q 0 sz n f ∧ q ≠ r ∧ t q = some (.cells cs) ∧ cs.length = n * sz ∧ s q = none) (hs : ∀ k ob, k ≠ r → s k = some ob → t k = some ob)
    (hp : ∀ q cs, pre.map (frz0 q cs) = pre ∧ post.map (frz0 q cs) = post) (xs : List HV) (hx : ∀ q cs, xs.map (frz2 q cs) = xs) : UpL xs t xs (s.set r (.cells (pre ++ .list sz n cs false :: post))) := by
  rcases hA with ⟨rfl, rfl, rfl⟩ | ⟨q, f, rfl, hq, hqt, hcs, hqs⟩
  · have hcr : ∀ m l w, ObjAt m (.cells (pre ++ nilV :: post)) l w → ObjAt m (.cells (pre ++ .list sz 0 [] false :: post)) l w := fun m l w => cells_re (by simp) (by
      intro x hx
      rcases List.mem_append.1 hx with hx | hx
      · exact ho x (List.mem_append_left _ hx)
      · rcases List.mem_cons.1 hx with rfl | hx
        · rfl
        · exact ho x (List.mem_append_right _ hx)) (by
      intro j x' hj
      by_cases e : j = pre.length
      · subst e
        simp at hj
        subst hj
        exact ⟨nilV, by simp, fun m v => rep_nil sz⟩
      · refine ⟨x', ?_, fun m v h => h⟩
        rw [← hj]
        rcases Nat.lt_or_gt_of_ne e with h | h
        · rw [List.getElem?_append_left h, List.getElem?_append_left h]
        · rw [List.getElem?_append_right (by omega), List.getElem?_append_right (by omega)]
          obtain ⟨i, hi⟩ : ∃ i, j - pre.length = i + 1 := ⟨j - pre.length - 1, by omega⟩
          rw [hi]
          rfl) m l w
    refine (UpL.re xs hr hcr).trans (UpL.le _ ?_)
    intro k o hk
    by_cases e : k = r
    · subst e; rw [set_at] at hk ⊢; exact hk
    · rw [set_ne _ _ e] at hk ⊢; exact hs k o e hk
  · have hu := UpL.frzG (xs := xs) (s' := s.set r (.cells ((pre ++ .view q 0 sz n f :: post).map (frz0 q cs)))) hqt fun k o hk => by
      by_cases e : k = r
      · subst e
        rw [set_at] at hk
        cases hk
        exact ⟨fun e => hq e.symm, _, hr, .inr rfl⟩
      · rw [set_ne _ _ e] at hk
        exact ⟨fun e => (by rw [e, hqs] at hk; cases hk), o, hs k o e hk, .inl rfl⟩
    rw [hx] at hu
    have e : (pre ++ HV.view q 0 sz n f :: post).map (frz0 q cs) = pre ++ .list sz n cs false :: post := by
      rw [List.map_append, List.map_cons, (hp q cs).1, (hp q cs).2]
      have : (cs.take (n * sz)) = cs := List.take_of_length_le (by omega)
      simp [frz0, phi, hcs, this]
    rw [e] at hu
    exact hu
def lefD (D : DK) : Int := if D.cut = true then D.left else -1
def rC (D : DK) : List HV := [.lit (.int .i64 D.room), rowL filC 2 D.files, rowL nmC 2 D.now, rowL nmC 2 D.safe, rowL acC 4 D.acts, .lit (.int .i64 (lefD D)), .lit (.bool D.off), .lit (.int .i64 D.ops)]
/-- Where the power goes at an act, it has not gone before. -/
def Lf (D : DK) : Prop := D.cut = true → 0 ≤ D.left
section
variable {s : HS} {r K : Nat} {D : DK}
theorem ldr (hr : s r = some (.cells (rC D))) (k : Nat) : vLoad s (.ptr r k) 1 false = (rC D)[k]? := ld_at hr k
/-- A row of names that is not the object's. -/
def NRw (s : HS) (r : Nat) (a : HV) (ns : List By) : Prop := (a = nilV ∧ ns = []) ∨ ∃ X f, a = .view X 0 1 ns.length f ∧ s X = some (.cells (rows strC ns)) ∧ X ≠ r
theorem lef_ask (hf : Lf D) : lefD D.ask = if D.off = true ∨ lefD D = 0 then lefD D else if 0 < lefD D then lefD D - 1 else lefD D := by
  unfold lefD DK.ask Lf at *
  cases hc : D.cut with
  | true =>
    have := hf hc
    cases ho : D.off with
    | true => simp [hc]
    | false =>
      by_cases h0 : D.left = 0
      · simp [hc, h0]
      · simp [hc, h0]
        omega
  | false =>
    cases ho : D.off with
    | true => simp [hc]
    | false => simp [hc]
theorem off_ask (hf : Lf D) : D.ask.off = decide (D.off = true ∨ lefD D = 0) := by
  unfold lefD DK.ask
  cases hc : D.cut <;> cases ho : D.off <;> simp [hc, ho]
  split <;> simp [*]
theorem Lf.ask (hf : Lf D) : Lf D.ask := by
  unfold Lf DK.ask at *
  split
  · exact hf
  · rename_i h
    intro hc
    have h1 := hf hc
    simp only at hc ⊢
    have : D.left ≠ 0 := fun e => h (.inr ⟨hc, e⟩)
    omega
theorem act61 (hr : s r = some (.cells (rC D))) (hw : Wf K D) (hf : Lf D) {a1 : HV} {ns : List By} (ha : NRw s r a1 ns) (hns : ns.length ≤ 1000) :
    HC Try.prog 61 [.ptr r 0, a1] s (fun v t => v = .lit (.int .i64 (D.err ns)) ∧ t = s.set r (.cells (rC D.ask))) := by
  refine HC61 ?_
  unfold c61
  have b1 := hw.ops
  have b2 := hw.left
  have b3 := hw.k
  have e1 := lef_ask hf
  have e2 := off_ask hf
  have e3 : D.ask.ops = D.ops + 1 := by unfold DK.ask; split <;> rfl
  obtain ⟨k1, k2, k3, k4, k5, k6⟩ := ask_same D
  have hlb : -1 ≤ lefD D ∧ lefD D ≤ 9223372036854775807 := by
    unfold lefD
    split
    · rename_i h; have := hf h; omega
    · omega
  have fin : ∀ l o p, l = lefD D.ask → o = D.ask.off → p = D.ask.ops → ([.lit (.int .i64 D.room), rowL filC 2 D.files, rowL nmC 2 D.now, rowL nmC 2 D.safe, rowL acC 4 D.acts, .lit (.int .i64 l), .lit (.bool o), .lit (.int .i64 p)] : List HV) = rC D.ask := by
    rintro l o p rfl rfl rfl
    unfold rC
    rw [k1, k2, k3, k4, k5]
  simp only [hvNil, hvFld, bindO, ldr hr, rC, List.getElem?_cons_succ, List.getElem?_cons_zero, add_n (a := D.ops) (b := 1) (by omega) (by omega)]
  refine store1 hr (by simp [rC]) rfl rfl rfl ?_
  have hr1 : (s.set r (.cells ((rC D).set 7 (.lit (.int .i64 (D.ops + 1)))))) r = some (.cells ((rC D).set 7 (.lit (.int .i64 (D.ops + 1))))) := set_at _ _ _
  have ld1 := fun k => ld_at hr1 k
  simp only [rC, List.set_cons_succ, List.set_cons_zero] at ld1 hr1 ⊢
  have hes : ∀ o, (s.set r o).set r = s.set r := fun o => by
    funext o'
    exact set_set _ _ _ _
  refine Join.of (fun xs u => u = s.set r (.cells [.lit (.int .i64 D.room), rowL filC 2 D.files, rowL nmC 2 D.now, rowL nmC 2 D.safe, rowL acC 4 D.acts, .lit (.int .i64 (lefD D)), .lit (.bool D.off), .lit (.int .i64 (D.ops + 1))]) ∧ xs = [.lit (.bool (decide (D.off = true ∨ lefD D = 0)))]) ?_ ?_
  rotate_left
  · intro K8 hK8
    simp only [ld1, List.getElem?_cons_succ, List.getElem?_cons_zero, eql3]
    cases ho : D.off with
    | true =>
      simp only [hcond]
      exact hK8 _ _ ⟨by rw [ho], by simp [ho]⟩
    | false =>
      simp only [hcond]
      exact hK8 _ _ ⟨by rw [ho], by simp [ho]⟩
  rintro _ u ⟨rfl, rfl⟩
  simp only [List.headD_cons]
  by_cases hoff : D.off = true ∨ lefD D = 0
  · simp only [hoff, decide_true, hcond]
    refine store1 hr1 (by simp) rfl rfl rfl ?_
    rw [set_set]
    refine ⟨?_, ?_⟩
    · unfold DK.err
      rw [e2, if_pos (by simp [hoff])]
    · simp only [List.set_cons_succ, List.set_cons_zero]
      rw [fin _ _ _ (by rw [e1, if_pos hoff]) (by rw [e2, decide_eq_true hoff]) e3.symm]
      rfl
  · simp only [hoff, decide_false, hcond]
    refine Join.of (fun _ u => u = s.set r (.cells (rC D.ask))) ?_ ?_
    rotate_left
    · intro K21 hK21
      simp only [ld1, List.getElem?_cons_succ, List.getElem?_cons_zero, gtr_n]
      have ho0 : D.off = false := by
        cases ho : D.off with
        | true => exact absurd (.inl ho) hoff
        | false => rfl
      by_cases hl0 : 0 < lefD D
      · simp only [hl0, decide_true, sub_n (a := lefD D) (b := 1) (by omega) (by omega)]
        refine store1 hr1 (by simp) rfl rfl rfl ?_
        rw [set_set]
        refine hK21 _ _ ?_
        simp only [List.set_cons_succ, List.set_cons_zero]
        rw [fin _ _ _ (by rw [e1, if_neg hoff, if_pos hl0]) (by rw [e2, decide_eq_false hoff, ho0]) e3.symm]
      · simp only [hl0, decide_false]
        refine hK21 _ _ ?_
        rw [fin _ _ _ (by rw [e1, if_neg hoff, if_neg hl0]) (by rw [e2, decide_eq_false hoff, ho0]) e3.symm]
    rintro _ u rfl
    have ha' : NRw (s.set r (.cells (rC D.ask))) r a1 ns := by
      rcases ha with h | ⟨X, f, h1, h2, h3⟩
      · exact .inl h
      · exact .inr ⟨X, f, h1, by rw [set_ne _ _ h3]; exact h2, h3⟩
    generalize hu : s.set r (.cells (rC D.ask)) = u at *
    have herr : D.err ns = if ns.all okN = true then 0 else 1 := by
      unfold DK.err
      rw [e2, if_neg (by simp [hoff])]
    have hla : ∀ u, vLenT (Try.prog.underlying 41) u a1 = some (.lit (.int .i64 ((ns.length : Nat) : Int))) := fun u => by
      rcases ha' with ⟨rfl, rfl⟩ | ⟨X, f, rfl, -⟩ <;> rfl
    refine HLoop.ghost (σ := Nat) (fun i => [.lit (.int .i64 (i : Int))]) (fun i t => t = u ∧ i ≤ ns.length ∧ ∀ x ∈ ns.take i, okN x = true) (fun i => ns.length - i) 0 rfl ⟨rfl, Nat.zero_le _, by simp⟩ ?_
    rintro i t K ⟨rfl, h1, h2⟩ hK
    simp only [List.headD_cons, hla, lss_i]
    by_cases hi : i < ns.length
    · have htk := take_succ' ([] : By) ns hi
      obtain ⟨X, f, rfl, hX, -⟩ : ∃ X f, a1 = .view X 0 1 ns.length f ∧ t X = some (.cells (rows strC ns)) ∧ X ≠ r := by
        rcases ha' with ⟨rfl, rfl⟩ | h
        · cases hi
        · exact h
      have hix : vIdx 1 (.view X 0 1 ns.length f) (.lit (.int .i64 (i : Int))) = some (.ptr X i) := by
        have := idx_view (q := X) (off := 0) (sz := 1) (n := ns.length) (f := f) (i := i) .i64 hi
        rw [this]
        simp
      have hli : vLoad t (.ptr X i) 1 false = some (strV (ns.getD i [])) := by
        rw [ld_at hX, rows_str, List.getElem?_map, List.getElem?_eq_getElem hi, getD_get [] ns hi]
        rfl
      simp only [hi, decide_true]
      refine Join.of (fun xs v => v = t ∧ xs = [.lit (.bool (!okN (ns.getD i [])))]) ?_ ?_
      rotate_left
      · intro K40 hK40
        simp only [hix, hli, lenS, lss_n, gtr_n]
        by_cases q1 : ((ns.getD i []).length : Int) < 1
        · simp only [q1, decide_true]
          exact hK40 _ _ ⟨rfl, by
            have : okN (ns.getD i []) = false := by unfold okN; rw [decide_eq_false]; omega
            rw [this]; rfl⟩
        · simp only [q1, decide_false]
          refine hK40 _ _ ⟨rfl, ?_⟩
          have : okN (ns.getD i []) = !decide ((100 : Int) < ((ns.getD i []).length : Int)) := by
            unfold okN
            rw [← decide_not, decide_eq_decide]
            omega
          rw [this, Bool.not_not]
      rintro _ v ⟨rfl, rfl⟩
      simp only [List.headD_cons]
      cases hok : okN (ns.getD i []) with
      | true =>
        simp only [Bool.not_true, inc_i hi (show ns.length ≤ 9223372036854775807 by omega)]
        refine hK (i + 1) _ _ rfl ⟨rfl, hi, fun x hx => ?_⟩ (by show ns.length - (i + 1) < ns.length - i; omega)
        rw [htk] at hx
        rcases List.mem_append.1 hx with hx | hx
        · exact h2 x hx
        · rw [List.mem_singleton.1 hx]; exact hok
      | false =>
        simp only [Bool.not_false]
        refine ⟨?_, hu.symm⟩
        rw [herr, if_neg]
        intro h
        rw [List.all_eq_true] at h
        rw [h _ (getD_memD [] hi)] at hok
        cases hok
    · simp only [hi, decide_false]
      obtain rfl : i = ns.length := by omega
      rw [List.take_length] at h2
      refine ⟨?_, hu.symm⟩
      rw [herr, if_pos (List.all_eq_true.2 h2)]
end
end Go.Proofs.Ythfoanmokcepcaa.DS
end
section
namespace Go.Proofs.Ythfoanmokcepcaa.DS
open Go.Proofs.Ythfoanmokcepcaa.H Go.Proofs.Ythfoanmokcepcaa.AS Go.Proofs.Ythfoanmokcepcaa.X0
set_option linter.unusedVariables false
set_option linter.unusedSimpArgs false
set_option maxRecDepth 100000
section
variable {s : HS} {r K : Nat} {D : DK}
theorem set63 (hr : s r = some (.cells (rC D))) {f : Nat} (hf : f < D.files.length) (hn : D.files.length ≤ 1000000) (b : List Int) (sf : Int) :
    HC Try.prog 63 [.ptr r 0, .lit (.int .i64 (f : Int)), byV b, .lit (.int .i64 sf)] s (fun v t => v = .tup [] ∧ t = s.set r (.cells (rC (D.setF f ⟨b, sf⟩)))) := by
  refine HC.up (HC63 ?_)
  unfold c63
  refine hBS0 fun Y hY => ?_
  have hle := le_set_new (.cells ([] : List HV)) (le_refl' s) hY
  have ld1 := fun k => ld_at (hle _ _ hr) k
  simp only [hvNil, hvFld, bindO, ld1, rC, List.getElem?_cons_succ, List.getElem?_cons_zero]
  refine app_empty (b := s) hle hY (set_at _ _ _) (lcL _ _ _ _) (k := D.files.length) rfl (rows_len filC_len _) ⟨by omega, by omega⟩ ?_
  intro A u g1 g2
  obtain ⟨q, ff, rfl, hqs, hqu⟩ : ∃ q ff, A = .view q 0 2 D.files.length ff ∧ s q = none ∧ u q = some (.cells (rows filC D.files)) := by
    rcases g1 with (⟨-, -, e⟩ | ⟨q, f', k1, k2, k3, -, -⟩) | ⟨e, -⟩
    · omega
    · exact ⟨q, f', k2, k1, k3⟩
    · omega
  have hqr : q ≠ r := fun e => by rw [e, hr] at hqs; cases hqs
  refine store1 (g2 _ _ hr) (by simp [rC]) rfl rfl rfl ?_
  have h1 : (u.set r (.cells ((rC D).set 1 (.view q 0 2 D.files.length ff)))) r = some (.cells ((rC D).set 1 (.view q 0 2 D.files.length ff))) := set_at _ _ _
  have ld2 := fun k => ld_at h1 k
  simp only [rC, List.set_cons_succ, List.set_cons_zero] at ld2 h1 ⊢
  have hix := idx_view (q := q) (off := 0) (sz := 2) (n := D.files.length) (f := ff) (i := f) .i64 hf
  simp only [ld2, List.getElem?_cons_succ, List.getElem?_cons_zero, hix, Nat.zero_add]
  rw [show vMk [(0, 1), (1, 1)] [.lit (.slice none 0 0), .lit (.int .i64 0)] [(0, byV b), (1, .lit (.int .i64 sf))] = some (.agg (filC ⟨b, sf⟩)) from rfl]
  simp only
  have hq2 : (u.set r (.cells [.lit (.int .i64 D.room), .view q 0 2 D.files.length ff, rowL nmC 2 D.now, rowL nmC 2 D.safe, rowL acC 4 D.acts, .lit (.int .i64 (lefD D)), .lit (.bool D.off), .lit (.int .i64 D.ops)])) q = some (.cells (rows filC D.files)) := by rw [set_ne _ _ hqr]; exact hqu
  unfold hStore
  have hput := put_rows filC_len ⟨b, sf⟩ [] D.files f hf
  rw [List.append_nil, List.append_nil] at hput
  have hlr := rows_len filC_len D.files
  simp only [hc_agg, hq2]
  refine ⟨rfl, by rw [hlr]; omega, fun x hx => by
    simp only [filC, List.mem_cons, List.not_mem_nil, or_false] at hx
    rcases hx with rfl | rfl <;> rfl, ?_⟩
  rw [hput]
  refine ⟨.tup [], _, canR (s := s) (r := r) (pre := [.lit (.int .i64 D.room)]) (post := [rowL nmC 2 D.now, rowL nmC 2 D.safe, rowL acC 4 D.acts, .lit (.int .i64 (lefD D)), .lit (.bool D.off), .lit (.int .i64 D.ops)]) (A := .view q 0 2 D.files.length ff) (n := D.files.length) (sz := 2) (cs := rows filC (D.files.set f ⟨b, sf⟩)) ?_ ?_ (.inr ⟨q, ff, rfl, hqr, set_at _ _ _, by rw [rows_len filC_len, List.length_set], hqs⟩) ?_ (fun q cs => ⟨rfl, rfl⟩) _ (fun q cs => rfl), rfl, ?_⟩
  · rw [set_ne _ _ (fun e => hqr e.symm), set_at]; rfl
  · intro x hx
    simp only [List.cons_append, List.nil_append, List.mem_cons, List.not_mem_nil, or_false] at hx
    rcases hx with rfl | rfl | rfl | rfl | rfl | rfl | rfl <;> rfl
  · intro k ob hk hs
    rw [set_ne _ _ (fun e => by rw [e, hqs] at hs; cases hs), set_ne _ _ hk]
    exact g2 _ _ hs
  · congr 2
    unfold rowL DK.setF lefD
    simp only [List.length_set]
    rfl
theorem names62 (hr : s r = some (.cells (rC D))) (hw : Wf K D) (a : AC) : HC Try.prog 62 [.ptr r 0, .agg (acC a)] s (fun v t => v = .tup [] ∧ t = s.set r (.cells (rC (D.name a)))) := by
  refine HC.up (HC62 ?_)
  unfold c62
  refine hbox_intro (hc_agg _) fun p hp => ?_
  have hle0 := le_set_new (.cells (acC a)) (le_refl' s) hp
  have hp1 : (s.set p (.cells (acC a))) p = some (.cells (acC a)) := set_at _ _ _
  generalize s.set p (.cells (acC a)) = s1 at *
  have hr1 := hle0 _ _ hr
  have lx : ∀ u, HS.le s1 u → vLoad u (.ptr p 0) 4 true = some (.agg (acC a)) := fun u hu => load_all rfl (hu _ _ hp1)
  have ld : ∀ u, HS.le s1 u → ∀ k, vLoad u (.ptr r k) 1 false = (rC D)[k]? := fun u hu k => ld_at (hu _ _ hr1) k
  have ld4 : ∀ u, HS.le s1 u → vLoad u (.ptr r 4) 1 false = some (rowL acC 4 D.acts) := fun u hu => ld u hu 4
  have hna := hw.na
  have hnw := hw.nw
  have hkk := hw.k
  have hpr : p ≠ r := fun e => by rw [e, hr] at hp; cases hp
  simp only [hvNil, hvFld, bindO, ld4 s1 (le_refl' _), lx s1 (le_refl' _)]
  have fin : ∀ A u, Acc0 s1 u 4 A (D.acts.length + 1) (rows acC D.acts ++ acC a) → HS.le s1 u → hStore u (.ptr r 4) A 1 (fun s17 => match vLoad s17 (.ptr r 2) 1 false with
      | some x20 => (match vLoad s17 (.ptr p 0) 4 true with
        | some x21 => HC Try.prog 55 [x20, x21] s17 (fun r22 s23 => hStore s23 (.ptr r 2) r22 1 (fun s26 => ∃ v' s'', UpL [.tup []] s26 [v'] s'' ∧ v' = .tup [] ∧ s'' = s.set r (.cells (rC (D.name a)))))
        | none => False)
      | none => False) := by
    intro A u g1 g2
    obtain ⟨q, ff, rfl, hqs, hqu⟩ : ∃ q ff, A = .view q 0 4 (D.acts.length + 1) ff ∧ s1 q = none ∧ u q = some (.cells (rows acC D.acts ++ acC a)) := by
      rcases g1 with (⟨-, -, e⟩ | ⟨q, f', k1, k2, k3, -, -⟩) | ⟨e, -⟩
      · omega
      · exact ⟨q, f', k2, k1, k3⟩
      · omega
    have hqr : q ≠ r := fun e => by rw [e, hr1] at hqs; cases hqs
    refine store1 (g2 _ _ hr1) (by simp [rC]) rfl rfl rfl ?_
    have h1 : (u.set r (.cells ((rC D).set 4 (.view q 0 4 (D.acts.length + 1) ff)))) r = some (.cells ((rC D).set 4 (.view q 0 4 (D.acts.length + 1) ff))) := set_at _ _ _
    have ld2 := fun k => ld_at h1 k
    have lx2 : vLoad (u.set r (.cells ((rC D).set 4 (.view q 0 4 (D.acts.length + 1) ff)))) (.ptr p 0) 4 true = some (.agg (acC a)) := load_all rfl (by rw [set_ne _ _ hpr]; exact g2 _ _ hp1)
    simp only [rC, List.set_cons_succ, List.set_cons_zero] at ld2 h1 lx2 ⊢
    simp only [ld2, lx2, List.getElem?_cons_succ, List.getElem?_cons_zero]
    refine (apply55 D.now (by omega) hw.sn a _).mono ?_
    rintro _ t ⟨rfl, rfl⟩
    refine store1 h1 (by simp) rfl rfl rfl ?_
    rw [set_set]
    simp only [List.set_cons_succ, List.set_cons_zero]
    refine ⟨.tup [], _, canR (s := s) (r := r) (pre := [.lit (.int .i64 D.room), rowL filC 2 D.files, rowL nmC 2 (applyA D.now a), rowL nmC 2 D.safe]) (post := [.lit (.int .i64 (lefD D)), .lit (.bool D.off), .lit (.int .i64 D.ops)]) (A := .view q 0 4 (D.acts.length + 1) ff) (n := D.acts.length + 1) (sz := 4) (cs := rows acC D.acts ++ acC a) ?_ ?_ (.inr ⟨q, ff, rfl, hqr, ?_, by rw [List.length_append, rows_len acC_len, acC_len]; omega, none_of_le hle0 hqs⟩) ?_ (fun q cs => ⟨rfl, rfl⟩) _ (fun q cs => rfl), rfl, ?_⟩
    · rw [set_at]; rfl
    · intro x hx
      simp only [List.cons_append, List.nil_append, List.mem_cons, List.not_mem_nil, or_false] at hx
      rcases hx with rfl | rfl | rfl | rfl | rfl | rfl | rfl <;> rfl
    · rw [set_ne _ _ hqr]; exact hqu
    · intro k ob hk hs
      rw [set_ne _ _ hk]
      exact g2 _ _ (hle0 _ _ hs)
    · congr 2
      unfold rowL DK.name lefD
      simp only [List.length_append, List.length_singleton, rows_app, rows_one]
      rfl
  have hlc : ∀ u, lcells u 4 (rowL acC 4 D.acts) = some (rows acC D.acts) := fun u => lcL _ _ _ _
  have hlr := rows_len acC_len D.acts
  have rm1 : room D.acts.length 48 := ⟨by omega, by omega⟩
  have rm2 : room (D.acts.length + 1) 48 := ⟨by omega, by omega⟩
  refine ⟨hBS0 fun Y hY => ?_, hBS_lit (vs := acC a) rfl rfl rfl fun id hid => ?_⟩
  · have hleY := le_set_new (.cells ([] : List HV)) (le_refl' s1) hY
    refine ⟨by rw [lx _ hleY], by rw [ld4 _ hleY], ?_, ?_⟩
    · refine app_empty (b := s1) hleY hY (set_at _ _ _) (hlc _) rfl hlr rm1 fun A u g1 g2 => ⟨by rw [lx _ g2, lx _ hleY], ?_⟩
      exact lit_app g1 g2 (vs := acC a) rfl rfl rfl rm2 fun A' u' k1 k2 => fin A' u' k1 k2
    · refine hBS_lit (vs := acC a) rfl rfl rfl fun id hid => ?_
      have htid : s1 id = none := by
        have : id ≠ Y := by rintro rfl; rw [set_at] at hid; cases hid
        rw [set_ne _ _ this] at hid; exact hid
      have hYi : Y ≠ id := by rintro rfl; rw [set_at] at hid; cases hid
      have hle2 := HS.le.trans hleY (le_set_new (.cells (acC a)) (le_refl' _) hid)
      refine ⟨by rw [ld4 _ hle2, ld4 _ hleY], ?_⟩
      refine app_empty (b := s1.set id (.cells (acC a))) (le_setBoth (le_set_new _ (le_refl' s1) hY) _ _) (by rw [set_ne _ _ hYi]; exact hY) (by rw [set_ne _ _ hYi, set_at]) (hlc _) rfl hlr rm1 fun A u g1 g2 => ?_
      refine acc0_appS (k := 1) g1 g2 (lit_cells (g2 _ _ (set_at _ _ _)) rfl) rfl rfl rm2 fun A' u' k1 k2 => ?_
      exact fin A' u' (k1.base (le_set_new _ (le_refl' s1) htid)) (HS.le.trans (le_set_new _ (le_refl' s1) htid) k2)
  · have hleI := le_set_new (.cells (acC a)) (le_refl' s1) hid
    refine ⟨by rw [ld4 _ hleI], hBS0 fun Y hY => ?_⟩
    have hleY := HS.le.trans hleI (le_set_new (.cells ([] : List HV)) (le_refl' _) hY)
    refine ⟨by rw [ld4 _ hleY, ld4 _ hleI], ?_⟩
    refine app_empty (b := s1.set id (.cells (acC a))) (le_set_new _ (le_refl' _) hY) hY (set_at _ _ _) (hlc _) rfl hlr rm1 fun A u g1 g2 => ?_
    refine acc0_appS (k := 1) g1 g2 (lit_cells (g2 _ _ (set_at _ _ _)) rfl) rfl rfl rm2 fun A' u' k1 k2 => ?_
    exact fin A' u' (k1.base hleI) (HS.le.trans hleI k2)
end
end Go.Proofs.Ythfoanmokcepcaa.DS
end
section
namespace Go.Proofs.Ythfoanmokcepcaa.DS
open Go.Proofs.Ythfoanmokcepcaa.H Go.Proofs.Ythfoanmokcepcaa.AS Go.Proofs.Ythfoanmokcepcaa.X0
set_option linter.unusedVariables false
set_option linter.unusedSimpArgs false
set_option maxRecDepth 100000
theorem idx_look (l : List Nm) (n : By) : (look l n = none ∧ idxI (fun x : Nm => x.1 == n) l = -1) ∨ ∃ k i, look l n = some i ∧ k < l.length ∧ idxI (fun x : Nm => x.1 == n) l = (k : Int) ∧ l.getD k nm0 = (n, i) := by
  rcases idxI_cases (fun x : Nm => x.1 == n) l with ⟨h1, h2⟩ | ⟨k, hk, h1, h2, h3⟩
  · left
    refine ⟨look_none.2 fun x hx => ?_, h1⟩
    have := h2 x hx
    simpa using this
  · right
    refine ⟨k, l[k].2, ?_, hk, h1, ?_⟩
    · unfold look
      have : l.find? (fun x => x.1 == n) = some l[k] := by
        rw [List.find?_eq_some_iff_append]
        refine ⟨h2, l.take k, l.drop (k + 1), ?_, fun a ha => by rw [h3 a ha]; rfl⟩
        rw [List.getElem_cons_drop, List.take_append_drop]
      rw [this]
      rfl
    · rw [getD_get nm0 l hk]
      have : l[k].1 = n := by simpa using h2
      rw [← this]
/-- Whatever is not the object's is kept. -/
def Keep (s u : HS) (r : Nat) : Prop := ∀ k ob, k ≠ r → s k = some ob → u k = some ob
theorem Keep.refl (s : HS) (r : Nat) : Keep s s r := fun k ob h1 h2 => h2
theorem Keep.le {s u : HS} (h : HS.le s u) (r : Nat) : Keep s u r := fun k ob h1 h2 => h _ _ h2
theorem Keep.trans {s u t : HS} {r : Nat} (a : Keep s u r) (b : Keep u t r) : Keep s t r := fun k ob h1 h2 => b k ob h1 (a k ob h1 h2)
theorem Keep.set (s : HS) (r : Nat) (o : HObj) : Keep s (s.set r o) r := fun k ob h1 h2 => by rw [set_ne _ _ h1]; exact h2
theorem Keep.drop {s u : HS} {r : Nat} {o : HObj} (h : Keep s u r) (hr : u r = some o) : HS.le (s.set r o) u := fun k ob hk => by
  by_cases e : k = r
  · subst e; rw [set_at] at hk; rw [hr]; exact hk
  · rw [set_ne _ _ e] at hk; exact h k ob e hk
theorem acc0_upAt {b t : HS} {sz : Nat} {A : HV} {n : Nat} {cs : List HV} (h : Acc0 b t sz A n cs) (hb : HS.le b t) (ys zs : List HV) (hy : ∀ q cs, ys.map (frz2 q cs) = ys) (hz : ∀ q cs, zs.map (frz2 q cs) = zs) : UpL (ys ++ A :: zs) t (ys ++ .list sz n cs false :: zs) b := by
  rcases h with h | ⟨rfl, rfl, q, h3, rfl, h4⟩
  · exact h.upAtL hb ys zs hy hz
  · have := UpL.freeze (ys := ys) (zs := zs) (id := q) (off := 0) (sz := sz) (n := 0) (full := true) (full' := false) (fun h => by cases h) h4 (by simp)
    simp only [Nat.zero_mul, List.take_zero] at this
    exact this.trans (UpL.le _ (le_del_free hb h3))
theorem store2 {s : HS} {g : Nat} {cs vs : List HV} {K : HS → Prop} (hg : s g = some (.cells cs)) (hc : cs.length = vs.length) (ho : Ones vs) (hK : K (s.set g (.cells vs))) : hStore s (.ptr g 0) (.agg vs) vs.length K := by
  unfold hStore
  simp only [hc_agg, hg]
  refine ⟨trivial, by omega, ho, ?_⟩
  have : putCells cs 0 vs = vs := by
    unfold putCells
    rw [List.take_zero, List.nil_append, Nat.zero_add, List.drop_of_length_le (by omega), List.append_nil]
  rw [this]
  exact hK
theorem filC_ones (f : Fl) : Ones (filC f) := fun x hx => by
  simp only [filC, List.mem_cons, List.not_mem_nil, or_false] at hx
  rcases hx with rfl | rfl <;> rfl
section
variable {s : HS} {r K : Nat} {D : DK}
theorem used51 (hr : s r = some (.cells (rC D))) (hw : Wf K D) : HC Try.prog 51 [.ptr r 0] s (fun v t => v = .lit (.int .i64 D.used) ∧ t = s) := by
  refine HC51 ?_
  unfold c51
  have ld1 := fun k => ld_at hr k
  have ln : ∀ u, vLenT (Try.prog.underlying 65) u (rowL nmC 2 D.now) = some (.lit (.int .i64 ((D.now.length : Nat) : Int))) := fun u => rfl
  have i1 := fun i (hi : i < D.now.length) => idx_rowL nmC_len nm0 D.now .i64 hi
  have i2 := fun i (hi : i < D.files.length) => idx_rowL filC_len fl0 D.files .i64 hi
  have lb : ∀ u (b : List Int), vLenT (Try.prog.underlying 22) u (byV b) = some (.lit (.int .i64 ((b.length : Nat) : Int))) := fun u b => rfl
  have hnw := hw.nw
  have hkk := hw.k
  have bd : ∀ l : List Nm, 0 ≤ (l.map fun x => ((D.files.getD x.2 fl0).b.length : Int)).sum := by
    intro l
    induction l with
    | nil => exact Int.le_refl 0
    | cons x l ih => rw [List.map_cons, List.sum_cons]; omega
  have hus := used_bd hw
  have hus2 : (D.now.length : Int) * K ≤ 1000000 * 1000000 := Int.mul_le_mul (by omega) (by omega) (by omega) (by omega)
  have part_ : ∀ i, ((D.now.take i).map fun x => ((D.files.getD x.2 fl0).b.length : Int)).sum ≤ D.used := fun i => by
    unfold DK.used
    conv => rhs; rw [← List.take_append_drop i D.now, List.map_append, List.sum_append]
    have := bd (D.now.drop i)
    omega
  refine HLoop.ghost (σ := Nat) (fun i => [.lit (.int .i64 ((D.now.take i).map fun x => ((D.files.getD x.2 fl0).b.length : Int)).sum), .lit (.int .i64 (i : Int))]) (fun i t => t = s ∧ i ≤ D.now.length) (fun i => D.now.length - i) 0 rfl ⟨rfl, Nat.zero_le _⟩ ?_
  rintro i t K ⟨rfl, h1⟩ hK
  simp only [List.headD_cons, List.tail_cons, hvNil, hvFld, bindO, ld1, rC, List.getElem?_cons_succ, List.getElem?_cons_zero, ln, lss_i]
  by_cases hi : i < D.now.length
  · have htk := take_succ' nm0 D.now hi
    have hfi := hw.nn _ (getD_memD nm0 hi)
    have b1 := bd (D.now.take i)
    have b2 := part_ (i + 1)
    rw [htk, List.map_append, List.sum_append, List.map_cons, List.map_nil, List.sum_cons, List.sum_nil] at b2
    simp only [hi, decide_true, hcond, i1 i hi, fldE, load_elt1, nmC, List.getElem?_cons_succ, List.getElem?_cons_zero, i2 _ hfi, filC, lb]
    rw [add_n (by omega) (by omega)]
    simp only [inc_i hi (show D.now.length ≤ 9223372036854775807 by omega)]
    refine hK (i + 1) _ _ ?_ ⟨rfl, hi⟩ (by show D.now.length - (i + 1) < D.now.length - i; omega)
    rw [htk, List.map_append, List.sum_append]
    simp
  · simp only [hi, decide_false, hcond]
    obtain rfl : i = D.now.length := by omega
    rw [List.take_length]
    exact ⟨by rfl, by trivial⟩
theorem read31 (hr : s r = some (.cells (rC D))) (hw : Wf K D) (n : By) : HC Try.prog 31 [.ptr r 0, strV n] s (fun v t => (∃ x, v = .tup [x, .lit (.int .i64 (D.read n).2)] ∧ RV x (D.read n).1) ∧ t = s) := by
  refine HC31 ?_
  unfold c31
  have ld1 := fun k => ld_at hr k
  have hnw := hw.nw
  have hkk := hw.k
  simp only [hvNil, hvFld, bindO, ld1, rC, List.getElem?_cons_succ, List.getElem?_cons_zero]
  refine (find52 D.now (by omega) n s).mono ?_
  rintro _ t ⟨rfl, rfl⟩
  unfold DK.read
  rcases idx_look D.now n with ⟨h1, h2⟩ | ⟨k, i, h1, h2, h3, h4⟩
  · rw [h1, h2]
    simp only [lss_n, show decide ((-1 : Int) < 0) = true from rfl, hcond]
    exact ⟨⟨_, rfl, .inr ⟨rfl, rfl⟩⟩, trivial⟩
  · have i1 := idx_rowL nmC_len nm0 D.now .i64 h2
    have hfi := hw.look h1
    have i2 := idx_rowL filC_len fl0 D.files .i64 hfi
    rw [h1, h3]
    have hk0 : ¬ (k : Int) < 0 := by omega
    simp only [lss_n, hk0, decide_false, hcond, ld1, rC, List.getElem?_cons_succ, List.getElem?_cons_zero, i1, h4, fldE, load_elt1, nmC, i2, filC]
    exact ⟨⟨_, rfl, .inl rfl⟩, trivial⟩
theorem cut49 (hr : s r = some (.cells (rC D))) (n : Int) : HC Try.prog 49 [.ptr r 0, .lit (.int .i64 n)] s (fun v t => v = .tup [] ∧ t = s.set r (.cells (rC (D.cutAt n)))) := by
  refine HC49 ?_
  unfold c49
  rw [show hfold vMax2 (.lit (.int .i64 n)) [(.lit (.int .i64 0))] = some (.lit (.int .i64 (max n 0))) from by
    show some (HV.lit (.int .i64 (if 0 > n then 0 else n))) = _
    have : (if 0 > n then (0 : Int) else n) = max n 0 := by split <;> omega
    rw [this]]
  simp only [hvNil, hvFld, bindO]
  refine store1 hr (by simp [rC]) rfl rfl rfl ?_
  exact ⟨by trivial, rfl⟩
theorem new28 (room : Int) (s : HS) : HC Try.prog 28 [.lit (.int .i64 room)] s (fun v t => if 0 ≤ room ∧ room ≤ 1099511627776 then ∃ r, s r = none ∧ v = .tup [.ptr r 0, .lit (.int .i64 0)] ∧ t = s.set r (.cells (rC (DK.new room))) else t = s ∧ v = .tup [nilP, .lit (.int .i64 1)]) := by
  refine HC.up (HC28 ?_)
  unfold c28
  refine Join.of (fun xs t => t = s ∧ xs = [.lit (.bool (decide (¬ (0 ≤ room ∧ room ≤ 1099511627776))))]) ?_ ?_
  rotate_left
  · intro K1 hK1
    simp only [lss_n, gtr_n, bindO]
    by_cases h1 : room < 0
    · simp only [h1, decide_true, hcond]
      exact hK1 _ _ ⟨rfl, by rw [decide_eq_true (by omega)]⟩
    · simp only [h1, decide_false, hcond]
      exact hK1 _ _ ⟨rfl, by rw [show decide (1099511627776 < room) = decide (¬ (0 ≤ room ∧ room ≤ 1099511627776)) from by rw [decide_eq_decide]; omega]⟩
  rintro _ t ⟨rfl, rfl⟩
  simp only [List.headD_cons]
  by_cases hrm : 0 ≤ room ∧ room ≤ 1099511627776
  · simp only [hrm, and_self, not_true, decide_false, hcond, if_true]
    rw [show vMk [(0, 1), (1, 1), (2, 1), (3, 1), (4, 1), (5, 1), (6, 1), (7, 1)] [.lit (.int .i64 0), .lit (.slice none 0 0), .lit (.slice none 0 0), .lit (.slice none 0 0), .lit (.slice none 0 0), .lit (.int .i64 0), .lit (.bool false), .lit (.int .i64 0)] [(0, .lit (.int .i64 room)), (5, (.lit (.int .i64 (-1))))] = some (.agg [.lit (.int .i64 room), nilV, nilV, nilV, nilV, .lit (.int .i64 (-1)), .lit (.bool false), .lit (.int .i64 0)]) from rfl]
    simp only [bindO]
    refine hbox_intro (hc_agg _) fun r hr => ?_
    refine ⟨_, t.set r (.cells (rC (DK.new room))), ?_, r, hr, rfl, rfl⟩
    have hcr : ∀ m l w, ObjAt m (.cells [.lit (.int .i64 room), nilV, nilV, nilV, nilV, .lit (.int .i64 (-1)), .lit (.bool false), .lit (.int .i64 0)]) l w → ObjAt m (.cells (rC (DK.new room))) l w := fun m l w => cells_re (cs := [.lit (.int .i64 room), nilV, nilV, nilV, nilV, .lit (.int .i64 (-1)), .lit (.bool false), .lit (.int .i64 0)]) (cs' := rC (DK.new room)) rfl (by
        intro x hx
        simp only [rC, List.mem_cons, List.not_mem_nil, or_false] at hx
        rcases hx with rfl | rfl | rfl | rfl | rfl | rfl | rfl | rfl <;> rfl) (by
        intro j x' hj
        rcases j with _ | _ | _ | _ | _ | _ | _ | _ | j
        · exact ⟨_, rfl, fun m v h => by cases hj; exact h⟩
        · exact ⟨nilV, rfl, fun m v h => by cases hj; exact rep_nil 2 h⟩
        · exact ⟨nilV, rfl, fun m v h => by cases hj; exact rep_nil 2 h⟩
        · exact ⟨nilV, rfl, fun m v h => by cases hj; exact rep_nil 2 h⟩
        · exact ⟨nilV, rfl, fun m v h => by cases hj; exact rep_nil 4 h⟩
        · exact ⟨_, rfl, fun m v h => by cases hj; exact h⟩
        · exact ⟨_, rfl, fun m v h => by cases hj; exact h⟩
        · exact ⟨_, rfl, fun m v h => by cases hj; exact h⟩
        · cases hj) m l w
    have hu := UpL.re (s := t.set r (.cells [.lit (.int .i64 room), nilV, nilV, nilV, nilV, .lit (.int .i64 (-1)), .lit (.bool false), .lit (.int .i64 0)])) [.tup [.ptr r 0, .lit (.int .i64 0)]] (set_at _ _ _) hcr
    rw [set_set] at hu
    exact hu
  · simp only [hrm, not_false_iff, decide_true, hcond, if_false]
    exact ⟨_, t, UpL.refl _ _, rfl, rfl⟩
end
end Go.Proofs.Ythfoanmokcepcaa.DS
end
section
namespace Go.Proofs.Ythfoanmokcepcaa.DS
open Go.Proofs.Ythfoanmokcepcaa.H Go.Proofs.Ythfoanmokcepcaa.AS Go.Proofs.Ythfoanmokcepcaa.X0
set_option linter.unusedVariables false
set_option linter.unusedSimpArgs false
set_option maxRecDepth 100000
/-- The document's disk somewhere on its way. -/
def Dm (s u : HS) (r : Nat) (D : DK) : Prop := u r = some (.cells (rC D)) ∧ Keep s u r
section
variable {s u : HS} {r K : Nat} {D : DK}
theorem Dm.fin (h : Dm s u r D) (v : HV) : ∃ v' s'', UpL [v] u [v'] s'' ∧ v' = v ∧ s'' = s.set r (.cells (rC D)) := ⟨v, _, UpL.le _ (h.2.drop h.1), rfl, rfl⟩
theorem Dm.end_ {D' : DK} {e e' : Int} (h : Dm s u r D) (h1 : D' = D) (h2 : e' = e) : ∃ v' s'', UpL [.lit (.int .i64 e)] u [v'] s'' ∧ v' = .lit (.int .i64 e') ∧ s'' = s.set r (.cells (rC D')) := by
  subst h1; subst h2; exact h.fin _
theorem Dm.set (h : Dm s u r D) (D' : DK) : Dm s (u.set r (.cells (rC D'))) r D' := ⟨set_at _ _ _, h.2.trans (Keep.set _ _ _)⟩
theorem Dm.le {t : HS} (h : Dm s u r D) (hl : HS.le u t) : Dm s t r D := ⟨hl _ _ h.1, h.2.trans (Keep.le hl r)⟩
theorem ask_used (D : DK) : D.ask.used = D.used := by
  obtain ⟨e1, e2, e3, e4, e5, e6⟩ := ask_same D
  unfold DK.used
  rw [e1, e4]
/-- A new file, that has no bytes yet, behind the others. -/
theorem newFile {t : HS} (hm : Dm s u r D) (hn : D.files.length ≤ 999999) {k : HV → HS → HS → Prop} {K' : HS → Prop}
    (hK : ∀ A t ff, Dm s t r D → A ≠ .ptr r 0 → (∃ q, A = .view q 0 2 (D.files.length + 1) ff ∧ q ≠ r ∧ u q = none ∧ t q = some (.cells (rows filC D.files ++ [nilV, .lit (.int .i64 0)]))) → HS.le u t → hStore t (.ptr r 1) A 1 K') :
    hBS u 2 0 [] [] (fun x23 s24 => match vLoad s24 (.ptr r 1) 1 false with
      | some x27 => hAppend s24 2 32 x23 x27 (fun x28 s29 => hBS s29 2 1 [.lit (.slice none 0 0), .lit (.int .i64 0)] [(0, (.agg [.lit (.slice none 0 0), .lit (.int .i64 0)]))] (fun x30 s31 => hAppend s31 2 32 x28 x30 (fun x32 s33 => hStore s33 (.ptr r 1) x32 1 K')))
      | none => False) := by
  refine hBS0 fun Y hY => ?_
  have hleY := le_set_new (.cells ([] : List HV)) (le_refl' u) hY
  have hld : vLoad (u.set Y (.cells [])) (.ptr r 1) 1 false = some (rowL filC 2 D.files) := ld_at (hleY _ _ hm.1) 1
  rw [hld]
  refine app_empty (b := u) hleY hY (set_at _ _ _) (lcL _ _ _ _) (k := D.files.length) rfl (rows_len filC_len _) ⟨by omega, by omega⟩ fun A w g1 g2 => ?_
  refine lit_app g1 g2 (vs := [nilV, .lit (.int .i64 0)]) rfl rfl rfl ⟨by omega, by omega⟩ fun A' w' k1 k2 => ?_
  obtain ⟨q, ff, rfl, hqs, hqu⟩ : ∃ q ff, A' = .view q 0 2 (D.files.length + 1) ff ∧ u q = none ∧ w' q = some (.cells (rows filC D.files ++ [nilV, .lit (.int .i64 0)])) := by
    rcases k1 with (⟨-, -, e⟩ | ⟨q, f', k1, k2, k3, -, -⟩) | ⟨e, -⟩
    · omega
    · exact ⟨q, f', k2, k1, k3⟩
    · omega
  exact hK _ w' ff (hm.le k2) (by intro h; cases h) ⟨q, rfl, (fun e => by rw [e, hm.1] at hqs; cases hqs), hqs, hqu⟩ k2
theorem newUp {t : HS} (hm : Dm s u r D) {q : Nat} {ff : Bool} (hqr : q ≠ r) (hqu : u q = none) (hq : t q = some (.cells (rows filC D.files ++ [nilV, .lit (.int .i64 0)]))) (hle : HS.le u t) (xs : List HV) (hx : ∀ q cs, xs.map (frz2 q cs) = xs) :
    UpL xs (t.set r (.cells ((rC D).set 1 (.view q 0 2 (D.files.length + 1) ff)))) xs (u.set r (.cells (rC { D with files := D.files ++ [fl0] }))) := by
  have hlr := rows_len filC_len D.files
  have hcr : ∀ m l w, ObjAt m (.cells (rows filC D.files ++ [nilV, .lit (.int .i64 0)])) l w → ObjAt m (.cells (rows filC (D.files ++ [fl0]))) l w := fun m l w =>
    cells_re (cs := rows filC D.files ++ [nilV, .lit (.int .i64 0)]) (cs' := rows filC (D.files ++ [fl0])) (by rw [rows_app, rows_one]; simp [filC]) (rows_ones (fun x y hy => filC_ones x y hy) _) (by
      intro j x' hj
      rw [rows_app, rows_one] at hj
      by_cases h1 : j < (rows filC D.files).length
      · rw [List.getElem?_append_left h1] at hj
        exact ⟨x', by rw [List.getElem?_append_left h1]; exact hj, fun m v h => h⟩
      · rw [List.getElem?_append_right (by omega)] at hj ⊢
        rcases hjj : j - (rows filC D.files).length with _ | _ | j'
        · rw [hjj] at hj
          cases hj
          exact ⟨nilV, rfl, fun m v h => rep_nil 1 h⟩
        · rw [hjj] at hj
          cases hj
          exact ⟨_, rfl, fun m v h => h⟩
        · rw [hjj] at hj
          cases hj) m l w
  refine (UpL.re xs (s := t.set r (.cells ((rC D).set 1 (.view q 0 2 (D.files.length + 1) ff)))) (by rw [set_ne _ _ hqr]; exact hq) hcr).trans ?_
  have := canR (t := (t.set r (.cells ((rC D).set 1 (.view q 0 2 (D.files.length + 1) ff)))).set q (.cells (rows filC (D.files ++ [fl0])))) (s := u) (r := r) (pre := [.lit (.int .i64 D.room)]) (post := [rowL nmC 2 D.now, rowL nmC 2 D.safe, rowL acC 4 D.acts, .lit (.int .i64 (lefD D)), .lit (.bool D.off), .lit (.int .i64 D.ops)]) (A := .view q 0 2 (D.files.length + 1) ff) (n := D.files.length + 1) (sz := 2) (cs := rows filC (D.files ++ [fl0])) (by rw [set_ne _ _ hqr.symm, set_at]; rfl) (by
    intro x hx
    simp only [List.cons_append, List.nil_append, List.mem_cons, List.not_mem_nil, or_false] at hx
    rcases hx with rfl | rfl | rfl | rfl | rfl | rfl | rfl <;> rfl) (.inr ⟨q, ff, rfl, hqr, set_at _ _ _, by rw [rows_len filC_len]; simp, hqu⟩) (fun k ob hk hs => by
      rw [set_ne _ _ (fun e => by rw [e, hqu] at hs; cases hs), set_ne _ _ hk]
      exact hle _ _ hs) (fun q cs => ⟨rfl, rfl⟩) xs hx
  have e : ([.lit (.int .i64 D.room)] ++ HV.list 2 (D.files.length + 1) (rows filC (D.files ++ [fl0])) false :: [rowL nmC 2 D.now, rowL nmC 2 D.safe, rowL acC 4 D.acts, .lit (.int .i64 (lefD D)), .lit (.bool D.off), .lit (.int .i64 D.ops)]) = rC { D with files := D.files ++ [fl0] } := by
    unfold rC rowL lefD
    simp only [List.length_append, List.length_singleton]
    rfl
  rw [e] at this
  exact this
theorem append43 (hr : s r = some (.cells (rC D))) (hw : Wf K D) (hf : Lf D) (n : By) (b : List Int) (hb : b.length ≤ 1000000) (hk : K + 3 ≤ 999999) :
    HC Try.prog 43 [.ptr r 0, strV n, byV b] s (fun v t => v = .lit (.int .i64 (D.append n b).2) ∧ t = s.set r (.cells (rC (D.append n b).1))) := by
  refine HC.up (HC43 ?_)
  unfold c43
  refine hBS_lit (vs := strC n) rfl rfl rfl fun X hX => ?_
  have hXr : X ≠ r := fun e => by rw [e, hr] at hX; cases hX
  have hleX := le_set_new (.cells (strC n)) (le_refl' s) hX
  refine (act61 (hleX _ _ hr) hw hf (ns := [n]) (.inr ⟨X, true, rfl, set_at _ _ _, hXr⟩) (by simp)).mono ?_
  rintro _ u ⟨rfl, hu⟩
  have hm : Dm s u r D.ask := ⟨by rw [hu, set_at], by rw [hu]; exact (Keep.le hleX r).trans (Keep.set _ _ _)⟩
  clear hu
  obtain ⟨e1, e2, e3, e4, e5, e6⟩ := ask_same D
  have hw1 := hw.ask (by omega)
  have lb : ∀ u (b : List Int), vLenT (Try.prog.underlying 22) u (byV b) = some (.lit (.int .i64 ((b.length : Nat) : Int))) := fun u b => rfl
  simp only [neq3, bindO]
  by_cases he : D.err [n] = 0
  rotate_left
  · simp only [he, decide_false, Bool.not_false, hcond]
    exact hm.end_ (by unfold DK.append; rw [if_pos he]) (by unfold DK.append; rw [if_pos he])
  have ld1 := fun k => ld_at hm.1 k
  simp only [he, decide_true, Bool.not_true, hcond, lb, hvNil, hvFld, ld1, rC, List.getElem?_cons_succ, List.getElem?_cons_zero]
  refine (used51 hm.1 hw1).mono ?_
  rintro _ t ⟨rfl, rfl⟩
  refine ⟨ld1 0, by trivial, ?_⟩
  have hus := used_bd hw
  have hnw := hw.nw
  have hkk := hw.k
  have hus2 : (D.now.length : Int) * K ≤ 1000000 * 1000000 := Int.mul_le_mul (by omega) (by omega) (by omega) (by omega)
  have hrm := hw.room
  simp only [ask_used, e5]
  rw [add_n (by omega) (by omega)]
  simp only [gtr_n]
  by_cases hfull : D.room - D.used < (b.length : Int)
  · simp only [show decide (D.room < D.used + (b.length : Int)) = true from by rw [decide_eq_true_iff]; omega]
    exact hm.end_ (by rw [append_full he hfull]) (by rw [append_full he hfull])
  simp only [show decide (D.room < D.used + (b.length : Int)) = false from by rw [decide_eq_false_iff_not]; omega, ld1, List.getElem?_cons_succ, List.getElem?_cons_zero, e1]
  rw [show (rC D.ask)[2]? = some (rowL nmC 2 D.now) from by rw [← e1]; rfl]
  simp only
  refine (find52 D.now (by omega) n t).mono ?_
  rintro _ t' ⟨rfl, rfl⟩
  refine Join.of (fun xs w => ∃ (k i : Nat) (D2 : DK), xs = [.lit (.int .i64 (k : Int))] ∧ Dm s w r D2 ∧ k < D2.now.length ∧ D2.now.getD k nm0 = (n, i) ∧ i < D2.files.length ∧ D2.files.length ≤ 1000000 ∧ (D2.files.getD i fl0).b.length ≤ 1000000 ∧ D.append n b = (D2.setF i ⟨(D2.files.getD i fl0).b ++ b, (D2.files.getD i fl0).safe⟩, 0)) ?_ ?_
  rotate_left
  · intro K19 hK19
    rcases idx_look D.now n with ⟨h1, h2⟩ | ⟨k, i, h1, h2, h3, h4⟩
    · rw [h2]
      simp only [lss_n, show decide ((-1 : Int) < 0) = true from rfl, hcond]
      have hnf : D.ask.files.length ≤ 999999 := by rw [e4]; have := hw.nf; omega
      refine newFile (t := t') (k := fun _ _ _ => True) hm hnf ?_
      rintro _ t2 ff hm2 - ⟨q, rfl, hqr, hqu, hqt⟩ hle2
      refine store1 hm2.1 (by simp [rC]) rfl rfl rfl ?_
      have hr3 : (t2.set r (.cells ((rC D.ask).set 1 (.view q 0 2 (D.ask.files.length + 1) ff)))) r = some (.cells ((rC D.ask).set 1 (.view q 0 2 (D.ask.files.length + 1) ff))) := set_at _ _ _
      have ld3 := fun k => ld_at hr3 k
      rw [ld3 1]
      simp only [rC, List.set_cons_succ, List.set_cons_zero, List.getElem?_cons_succ, List.getElem?_cons_zero]
      rw [show ∀ u, vLenT (Try.prog.underlying 64) u (.view q 0 2 (D.ask.files.length + 1) ff) = some (.lit (.int .i64 ((D.ask.files.length + 1 : Nat) : Int))) from fun u => rfl]
      simp only
      rw [sub_n (by omega) (by omega), show ((D.ask.files.length + 1 : Nat) : Int) - 1 = ((D.files.length : Nat) : Int) from by rw [e4]; omega]
      simp only
      rw [show vMk [(0, 1), (1, 1), (2, 1), (3, 1)] [.lit (.int .i64 0), .lit (.string .empty), .lit (.string .empty), .lit (.int .i64 0)] [(0, (.lit (.int .i64 1))), (1, strV n), (3, .lit (.int .i64 (D.files.length : Int)))] = some (.agg (acC ⟨1, n, [], D.files.length⟩)) from rfl]
      simp only
      refine HC.upArgs (newUp hm hqr hqu hqt hle2 [.ptr r 0, .agg (acC ⟨1, n, [], D.files.length⟩)] (fun q cs => rfl)) ?_
      have hm4 := hm.set { D.ask with files := D.ask.files ++ [fl0] }
      have hw4 := hw1.newF (by omega)
      refine (names62 hm4.1 hw4 ⟨1, n, [], D.files.length⟩).mono ?_
      rintro _ t5 ⟨rfl, rfl⟩
      have hm5 := hm4.set (DK.name { D.ask with files := D.ask.files ++ [fl0] } ⟨1, n, [], D.files.length⟩)
      have hq5 : ((DK.name { D.ask with files := D.ask.files ++ [fl0] } ⟨1, n, [], D.files.length⟩)).now = withN D.now n D.files.length := by
        show applyA D.ask.now ⟨1, n, [], D.files.length⟩ = _
        rw [e1]
        rfl
      have hf5 : ((DK.name { D.ask with files := D.ask.files ++ [fl0] } ⟨1, n, [], D.files.length⟩)).files = D.files ++ [fl0] := by
        show D.ask.files ++ [fl0] = _
        rw [e4]
      have hap : D.append n b = ((DK.name { D.ask with files := D.ask.files ++ [fl0] } ⟨1, n, [], D.files.length⟩).setF D.files.length ⟨b, 0⟩, 0) := by
        rw [append_new he hfull h1, e4]
      have hbd : (withN D.now n D.files.length).length ≤ 1000000 := by
        have h9 := (hw4.name (by omega) ⟨1, n, [], D.files.length⟩ (fun _ => by show D.files.length < (D.ask.files ++ [fl0]).length; rw [e4]; simp) ⟨fun _ => by
          have : okN n = true := by
            unfold DK.err at he
            split at he
            · cases he
            · split at he
              · rename_i h; simpa using h
              · cases he
          unfold okN at this
          have := of_decide_eq_true this
          exact this.2, fun h => by cases h⟩).nw
        rw [hq5] at h9
        omega
      generalize DK.name { D.ask with files := D.ask.files ++ [fl0] } ⟨1, n, [], D.files.length⟩ = D5 at *
      have ld5 := fun k => ld_at hm5.1 k
      rw [show vLoad _ (.ptr r 2) 1 false = some (rowL nmC 2 D5.now) from ld5 2]
      simp only [hq5]
      refine (find52 _ hbd n _).mono ?_
      rintro _ t6 ⟨rfl, rfl⟩
      have hlw := look_with D.now n n D.files.length
      rw [if_pos rfl] at hlw
      rcases idx_look (withN D.now n D.files.length) n with ⟨g1, g2⟩ | ⟨k, i, g1, g2, g3, g4⟩
      · rw [hlw] at g1; cases g1
      · rw [hlw] at g1
        cases g1
        rw [g3]
        have hgd : D5.files.getD D.files.length fl0 = fl0 := by
          rw [hf5]
          simp [List.getD]
        refine hK19 _ _ ⟨k, D.files.length, D5, rfl, hm5, by rw [hq5]; exact g2, by rw [hq5]; exact g4, by rw [hf5]; simp, by rw [hf5]; have := hw.nf; simp; omega, by rw [hgd]; exact Nat.zero_le _, ?_⟩
        rw [hgd, hap]
        rfl
    · rw [h3]
      have hk0 : ¬ (k : Int) < 0 := by omega
      simp only [lss_n, hk0, decide_false, hcond]
      have hfi := hw.look h1
      refine hK19 _ _ ⟨k, i, D.ask, rfl, hm, by rw [e1]; exact h2, by rw [e1]; exact h4, by rw [e4]; exact hfi, by rw [e4]; have := hw.nf; omega, by rw [e4]; have := (hw.at_ hfi).1; omega, ?_⟩
      rw [append_old he hfull h1, e4]
  rintro _ w ⟨k, i, D2, rfl, hm2, h1, h2, h3, h4, h5, hap⟩
  have i1 := idx_rowL nmC_len nm0 D2.now .i64 h1
  have i2 := idx_rowL filC_len fl0 D2.files .i64 h3
  have ld2 := fun k => ld_at hm2.1 k
  simp only [List.headD_cons, ld2, rC, List.getElem?_cons_succ, List.getElem?_cons_zero, i1, h2, fldE, load_elt1, nmC, i2]
  rw [load_elt w (filC (D2.files.getD i fl0)) 2 rfl]
  simp only
  intro B hB
  refine store2 (cs := [.lit (.slice none 0 0), .lit (.int .i64 0)]) (vs := filC (D2.files.getD i fl0)) (set_at _ _ _) rfl (filC_ones _) ?_
  rw [set_set]
  have hleB := le_set_new (.cells (filC (D2.files.getD i fl0))) (le_refl' w) hB
  have hBB : (w.set B (.cells (filC (D2.files.getD i fl0)))) B = some (.cells (filC (D2.files.getD i fl0))) := set_at _ _ _
  generalize w.set B (.cells (filC (D2.files.getD i fl0))) = w1 at *
  have ldB : ∀ u, HS.le w1 u → ∀ k, vLoad u (.ptr B k) 1 false = (filC (D2.files.getD i fl0))[k]? := fun u hu k => ld_at (hu _ _ hBB) k
  have ldB1 : ∀ u, HS.le w1 u → vLoad u (.ptr B 1) 1 false = some (.lit (.int .i64 (D2.files.getD i fl0).safe)) := fun u hu => ldB u hu 1
  simp only [hvFld, ldB w1 (le_refl' _), filC, List.getElem?_cons_succ, List.getElem?_cons_zero]
  refine hBS0 fun Y hY => ?_
  have hleY := le_set_new (.cells ([] : List HV)) (le_refl' w1) hY
  refine ⟨ldB1 _ hleY, ldB _ hleY 0, ?_⟩
  have lcB : ∀ u (b : List Int), lcells u 1 (byV b) = some (bl b) := fun u b => by simp [lcells, byV]
  refine app_empty (b := w1) hleY hY (set_at _ _ _) (lcB _ _) (k := (D2.files.getD i fl0).b.length) rfl (by rw [bl_len, Nat.mul_one]) ⟨by omega, by omega⟩ fun A w2 g1 g2 => ?_
  refine ⟨by rw [ldB1 _ g2, ldB1 _ hleY], ?_⟩
  refine acc0_appS g1 g2 (lcB _ _) (k := b.length) rfl (by rw [bl_len, Nat.mul_one]) ⟨by omega, by omega⟩ fun A' w3 g3 g4 => ?_
  refine ⟨by rw [ldB1 _ g4, ldB1 _ g2], ?_⟩
  rw [show bl (D2.files.getD i fl0).b ++ bl b = bl ((D2.files.getD i fl0).b ++ b) from by simp [bl], ← List.length_append] at g3
  refine HC.upArgs (acc0_upAt g3 g4 [.ptr r 0, .lit (.int .i64 (i : Int))] [.lit (.int .i64 (D2.files.getD i fl0).safe)] (fun q cs => rfl) (fun q cs => rfl)) ?_
  have hm3 := hm2.le hleB
  refine (set63 hm3.1 h3 h4 ((D2.files.getD i fl0).b ++ b) (D2.files.getD i fl0).safe).mono ?_
  rintro _ w4 ⟨rfl, rfl⟩
  rw [hap]
  exact (hm3.set _).fin _
end
end Go.Proofs.Ythfoanmokcepcaa.DS
end
section
namespace Go.Proofs.Ythfoanmokcepcaa.DS
open Go.Proofs.Ythfoanmokcepcaa.H Go.Proofs.Ythfoanmokcepcaa.AS Go.Proofs.Ythfoanmokcepcaa.X0
set_option linter.unusedVariables false
set_option linter.unusedSimpArgs false
set_option maxRecDepth 100000
section
variable {s u : HS} {r K : Nat} {D : DK}
theorem head1 (hr : s r = some (.cells (rC D))) (hw : Wf K D) (hf : Lf D) (n : By) {k : HV → HS → Prop} (h : ∀ u, Dm s u r D.ask → k (.lit (.int .i64 (D.err [n]))) u) :
    hBS s 1 1 [.lit (.string .empty)] [(0, strV n)] (fun x1 s2 => HC Try.prog 61 [.ptr r 0, x1] s2 k) := by
  refine hBS_lit (vs := strC n) rfl rfl rfl fun X hX => ?_
  have hXr : X ≠ r := fun e => by rw [e, hr] at hX; cases hX
  have hleX := le_set_new (.cells (strC n)) (le_refl' s) hX
  refine (act61 (hleX _ _ hr) hw hf (ns := [n]) (.inr ⟨X, true, rfl, set_at _ _ _, hXr⟩) (by simp)).mono ?_
  rintro _ u ⟨rfl, hu⟩
  exact h u ⟨by rw [hu, set_at], by rw [hu]; exact (Keep.le hleX r).trans (Keep.set _ _ _)⟩
theorem Dm.l1 (hm : Dm s u r D) : vLoad u (.ptr r 1) 1 false = some (rowL filC 2 D.files) := ld_at hm.1 1
theorem Dm.l2 (hm : Dm s u r D) : vLoad u (.ptr r 2) 1 false = some (rowL nmC 2 D.now) := ld_at hm.1 2
theorem slice_by (b : List Int) {k : Nat} (hk : k ≤ b.length) : vSlice 1 (byV b) none (some (.lit (.int .i64 (k : Int)))) none = some (byV (b.take k)) := by
  have hmn : min k b.length = k := by omega
  simp [vSlice, cutAt, intAt, hk, byV, hmn, bl, List.map_take]
theorem truncate44 (hr : s r = some (.cells (rC D))) (hw : Wf K D) (hf : Lf D) (n : By) (c : Int) (hk : K + 3 ≤ 999999) :
    HC Try.prog 44 [.ptr r 0, strV n, .lit (.int .i64 c)] s (fun v t => v = .lit (.int .i64 (D.truncate n c).2) ∧ t = s.set r (.cells (rC (D.truncate n c).1))) := by
  refine HC.up (HC44 ?_)
  unfold c44
  refine head1 hr hw hf n fun u hm => ?_
  obtain ⟨e1, e2, e3, e4, e5, e6⟩ := ask_same D
  have hw1 := hw.ask (by omega)
  have lb : ∀ u (b : List Int), vLenT (Try.prog.underlying 22) u (byV b) = some (.lit (.int .i64 ((b.length : Nat) : Int))) := fun u b => rfl
  simp only [neq3, bindO]
  by_cases he : D.err [n] = 0
  rotate_left
  · simp only [he, decide_false, Bool.not_false, hcond]
    exact hm.end_ (by unfold DK.truncate; rw [if_pos he]) (by unfold DK.truncate; rw [if_pos he])
  have hnw := hw.nw
  simp only [he, decide_true, Bool.not_true, hcond, hvNil, hvFld, hm.l2, e1]
  refine (find52 D.now (by omega) n u).mono ?_
  rintro _ t ⟨rfl, rfl⟩
  rcases idx_look D.now n with ⟨h1, h2⟩ | ⟨k, i, h1, h2, h3, h4⟩
  · rw [h2]
    simp only [lss_n, show decide ((-1 : Int) < 0) = true from rfl, hcond]
    exact hm.end_ (by unfold DK.truncate; rw [if_neg (fun h => h he), h1]) (by unfold DK.truncate; rw [if_neg (fun h => h he), h1])
  rw [h3]
  have hk0 : ¬ (k : Int) < 0 := by omega
  have hfi := hw.look h1
  have i1 := idx_rowL nmC_len nm0 D.now .i64 h2
  have i2 := idx_rowL filC_len fl0 D.files .i64 hfi
  have l1 : ∀ u, Dm s u r D.ask → vLoad u (.ptr r 1) 1 false = some (rowL filC 2 D.files) := fun u hm => by rw [hm.l1, e4]
  have l2 : ∀ u, Dm s u r D.ask → vLoad u (.ptr r 2) 1 false = some (rowL nmC 2 D.now) := fun u hm => by rw [hm.l2, e1]
  have hbl := (hw.at_ hfi).1
  have hkk := hw.k
  simp only [lss_n, hk0, decide_false, l1 t hm, l2 t hm, i1, h4, fldE, load_elt1, nmC, List.getElem?_cons_succ, List.getElem?_cons_zero, i2]
  rw [load_elt t (filC (D.files.getD i fl0)) 2 rfl]
  simp only
  intro B hB
  have hmB := hm.le (le_set_new (.cells [.lit (.slice none 0 0), .lit (.int .i64 0)]) (le_refl' t) hB)
  refine ⟨load_elt _ (filC (D.files.getD i fl0)) 2 rfl, by trivial, l2 _ hmB, l1 _ hmB, ?_⟩
  refine store2 (cs := [.lit (.slice none 0 0), .lit (.int .i64 0)]) (vs := filC (D.files.getD i fl0)) (set_at _ _ _) rfl (filC_ones _) ?_
  rw [set_set]
  have hleB := le_set_new (.cells (filC (D.files.getD i fl0))) (le_refl' t) hB
  have hBB : (t.set B (.cells (filC (D.files.getD i fl0)))) B = some (.cells (filC (D.files.getD i fl0))) := set_at _ _ _
  generalize t.set B (.cells (filC (D.files.getD i fl0))) = w1 at *
  have hm1 := hm.le hleB
  have ldB : ∀ u, HS.le w1 u → vLoad u (.ptr B 0) 1 false = some (byV (D.files.getD i fl0).b) := fun u hu => ld_at (hu _ _ hBB) 0
  refine Join.of (fun xs v => v = w1 ∧ xs = [.lit (.bool (decide (c < 0 ∨ ((D.files.getD i fl0).b.length : Int) < c)))]) ?_ ?_
  rotate_left
  · intro K26 hK26
    by_cases q1 : c < 0
    · simp only [q1, decide_true]
      exact hK26 _ _ ⟨rfl, by simp [q1]⟩
    · simp only [q1, decide_false, hvFld, ldB w1 (le_refl' _), lb, gtr_n]
      exact hK26 _ _ ⟨rfl, by simp [q1]⟩
  rintro _ v ⟨rfl, rfl⟩
  simp only [List.headD_cons]
  have htr : D.truncate n c = if c < 0 ∨ ((D.files.getD i fl0).b.length : Int) < c then (D.ask, 1) else (D.ask.setF i ⟨(D.files.getD i fl0).b.take c.toNat, c⟩, 0) := by
    unfold DK.truncate
    rw [if_neg (fun h => h he), h1]
  by_cases hbad : c < 0 ∨ ((D.files.getD i fl0).b.length : Int) < c
  · rw [if_pos hbad] at htr
    simp only [hbad, decide_true]
    rw [htr]
    exact hm1.fin _
  rw [if_neg hbad] at htr
  obtain ⟨N, rfl⟩ : ∃ N : Nat, c = (N : Int) := ⟨c.toNat, by omega⟩
  have hN : N ≤ (D.files.getD i fl0).b.length := by omega
  rw [Int.toNat_natCast] at htr
  simp only [hbad, decide_false, l2 v hm1, i1, h4, fldE, load_elt1, nmC, List.getElem?_cons_succ, List.getElem?_cons_zero, hvFld, ldB v (le_refl' _), slice_by _ hN]
  refine hBS0 fun Y hY => ?_
  have hleY := le_set_new (.cells ([] : List HV)) (le_refl' v) hY
  have hmY := hm1.le hleY
  refine ⟨ldB _ hleY, by trivial, l2 _ hmY, ?_⟩
  refine app_empty (b := v) hleY hY (set_at _ _ _) (show lcells _ 1 (byV _) = some (bl ((D.files.getD i fl0).b.take N)) by simp [lcells, byV]) (k := ((D.files.getD i fl0).b.take N).length) rfl (by rw [bl_len, Nat.mul_one]) ⟨by rw [List.length_take]; omega, by rw [List.length_take]; omega⟩ fun A w2 g1 g2 => ?_
  have hm2 := hm1.le g2
  refine ⟨by trivial, by rw [l2 _ hm2, l2 _ hmY], ?_⟩
  refine HC.upArgs (acc0_upAt g1 g2 [.ptr r 0, .lit (.int .i64 (i : Int))] [.lit (.int .i64 (N : Int))] (fun q cs => rfl) (fun q cs => rfl)) ?_
  refine (set63 hm1.1 (f := i) (by rw [e4]; exact hfi) (by rw [e4]; have := hw.nf; omega) ((D.files.getD i fl0).b.take N) N).mono ?_
  rintro _ w4 ⟨rfl, rfl⟩
  rw [htr]
  exact (hm1.set _).fin _
theorem sync45 (hr : s r = some (.cells (rC D))) (hw : Wf K D) (hf : Lf D) (n : By) (hk : K + 3 ≤ 999999) :
    HC Try.prog 45 [.ptr r 0, strV n] s (fun v t => v = .lit (.int .i64 (D.sync n).2) ∧ t = s.set r (.cells (rC (D.sync n).1))) := by
  refine HC.up (HC45 ?_)
  unfold c45
  refine head1 hr hw hf n fun u hm => ?_
  obtain ⟨e1, e2, e3, e4, e5, e6⟩ := ask_same D
  have hw1 := hw.ask (by omega)
  have lb : ∀ u (b : List Int), vLenT (Try.prog.underlying 22) u (byV b) = some (.lit (.int .i64 ((b.length : Nat) : Int))) := fun u b => rfl
  simp only [neq3, bindO]
  by_cases he : D.err [n] = 0
  rotate_left
  · simp only [he, decide_false, Bool.not_false, hcond]
    exact hm.end_ (by unfold DK.sync; rw [if_pos he]) (by unfold DK.sync; rw [if_pos he])
  have hnw := hw.nw
  simp only [he, decide_true, Bool.not_true, hcond, hvNil, hvFld, hm.l2, e1]
  refine (find52 D.now (by omega) n u).mono ?_
  rintro _ t ⟨rfl, rfl⟩
  rcases idx_look D.now n with ⟨h1, h2⟩ | ⟨k, i, h1, h2, h3, h4⟩
  · rw [h2]
    simp only [lss_n, show decide ((-1 : Int) < 0) = true from rfl, hcond]
    exact hm.end_ (by unfold DK.sync; rw [if_neg (fun h => h he), h1]) (by unfold DK.sync; rw [if_neg (fun h => h he), h1])
  rw [h3]
  have hk0 : ¬ (k : Int) < 0 := by omega
  have hfi := hw.look h1
  have i1 := idx_rowL nmC_len nm0 D.now .i64 h2
  have i2 := idx_rowL filC_len fl0 D.files .i64 hfi
  have l1 : ∀ u, Dm s u r D.ask → vLoad u (.ptr r 1) 1 false = some (rowL filC 2 D.files) := fun u hm => by rw [hm.l1, e4]
  have l2 : ∀ u, Dm s u r D.ask → vLoad u (.ptr r 2) 1 false = some (rowL nmC 2 D.now) := fun u hm => by rw [hm.l2, e1]
  simp only [lss_n, hk0, decide_false, l1 t hm, l2 t hm, i1, h4, fldE, load_elt1, nmC, List.getElem?_cons_succ, List.getElem?_cons_zero, i2]
  rw [load_elt t (filC (D.files.getD i fl0)) 2 rfl]
  simp only
  intro B hB
  have hmB := hm.le (le_set_new (.cells [.lit (.slice none 0 0), .lit (.int .i64 0)]) (le_refl' t) hB)
  refine ⟨load_elt _ (filC (D.files.getD i fl0)) 2 rfl, by trivial, l2 _ hmB, l1 _ hmB, ?_⟩
  refine store2 (cs := [.lit (.slice none 0 0), .lit (.int .i64 0)]) (vs := filC (D.files.getD i fl0)) (set_at _ _ _) rfl (filC_ones _) ?_
  rw [set_set]
  have hleB := le_set_new (.cells (filC (D.files.getD i fl0))) (le_refl' t) hB
  have hBB : (t.set B (.cells (filC (D.files.getD i fl0)))) B = some (.cells (filC (D.files.getD i fl0))) := set_at _ _ _
  generalize t.set B (.cells (filC (D.files.getD i fl0))) = w1 at *
  have hm1 := hm.le hleB
  have ldB : ∀ u, HS.le w1 u → vLoad u (.ptr B 0) 1 false = some (byV (D.files.getD i fl0).b) := fun u hu => ld_at (hu _ _ hBB) 0
  simp only [l2 w1 hm1, i1, h4, fldE, load_elt1, nmC, List.getElem?_cons_succ, List.getElem?_cons_zero, hvFld, ldB w1 (le_refl' _), lb]
  refine (set63 hm1.1 (f := i) (by rw [e4]; exact hfi) (by rw [e4]; have := hw.nf; omega) (D.files.getD i fl0).b ((D.files.getD i fl0).b.length : Nat)).mono ?_
  rintro _ w4 ⟨rfl, rfl⟩
  rw [sync_old he h1]
  exact (hm1.set _).fin _
theorem rename46 (hr : s r = some (.cells (rC D))) (hw : Wf K D) (hf : Lf D) (n m : By) (hk : K + 3 ≤ 999999) :
    HC Try.prog 46 [.ptr r 0, strV n, strV m] s (fun v t => v = .lit (.int .i64 (D.rename n m).2) ∧ t = s.set r (.cells (rC (D.rename n m).1))) := by
  refine HC.up (HC46 ?_)
  unfold c46
  refine hBS_in (cs := rows strC [n, m]) rfl fun X hX => ?_
  have hXr : X ≠ r := fun e => by rw [e, hr] at hX; cases hX
  have hleX := le_set_new (.cells (rows strC [n, m])) (le_refl' s) hX
  refine (act61 (hleX _ _ hr) hw hf (ns := [n, m]) (.inr ⟨X, true, rfl, set_at _ _ _, hXr⟩) (by simp)).mono ?_
  rintro _ u ⟨rfl, hu⟩
  have hm : Dm s u r D.ask := ⟨by rw [hu, set_at], by rw [hu]; exact (Keep.le hleX r).trans (Keep.set _ _ _)⟩
  clear hu
  obtain ⟨e1, e2, e3, e4, e5, e6⟩ := ask_same D
  have hw1 := hw.ask (by omega)
  simp only [neq3, bindO]
  by_cases he : D.err [n, m] = 0
  rotate_left
  · simp only [he, decide_false, Bool.not_false, hcond]
    exact hm.end_ (by unfold DK.rename; rw [if_pos he]) (by unfold DK.rename; rw [if_pos he])
  have hnw := hw.nw
  simp only [he, decide_true, Bool.not_true, hcond, hvNil, hvFld, hm.l2, e1]
  refine (find52 D.now (by omega) n u).mono ?_
  rintro _ t ⟨rfl, rfl⟩
  rcases idx_look D.now n with ⟨h1, h2⟩ | ⟨k, i, h1, h2, h3, h4⟩
  · rw [h2]
    simp only [lss_n, show decide ((-1 : Int) < 0) = true from rfl, hcond]
    exact hm.end_ (by unfold DK.rename; rw [if_neg (fun h => h he), h1]) (by unfold DK.rename; rw [if_neg (fun h => h he), h1])
  rw [h3]
  have hk0 : ¬ (k : Int) < 0 := by omega
  have i1 := idx_rowL nmC_len nm0 D.now .i64 h2
  have hrn : D.rename n m = if n = m then (D.ask, 1) else (D.ask.name ⟨2, n, m, i⟩, 0) := by
    unfold DK.rename
    rw [if_neg (fun h => h he), h1]
  by_cases hnm : n = m
  · rw [if_pos hnm] at hrn
    simp only [lss_n, hk0, decide_false, eql_s, hnm, decide_true]
    rw [← hnm] at hrn ⊢
    rw [hrn]
    exact hm.fin _
  · rw [if_neg hnm] at hrn
    simp only [lss_n, hk0, decide_false, eql_s, hnm, hm.l2, e1, i1, h4, fldE, load_elt1, nmC, List.getElem?_cons_succ, List.getElem?_cons_zero]
    rw [show vMk [(0, 1), (1, 1), (2, 1), (3, 1)] [.lit (.int .i64 0), .lit (.string .empty), .lit (.string .empty), .lit (.int .i64 0)] [(0, (.lit (.int .i64 2))), (1, strV n), (2, strV m), (3, .lit (.int .i64 (i : Int)))] = some (.agg (acC ⟨2, n, m, i⟩)) from rfl]
    simp only
    refine (names62 hm.1 hw1 ⟨2, n, m, i⟩).mono ?_
    rintro _ w ⟨rfl, rfl⟩
    rw [hrn]
    exact (hm.set _).fin _
theorem remove47 (hr : s r = some (.cells (rC D))) (hw : Wf K D) (hf : Lf D) (n : By) (hk : K + 3 ≤ 999999) :
    HC Try.prog 47 [.ptr r 0, strV n] s (fun v t => v = .lit (.int .i64 (D.remove n).2) ∧ t = s.set r (.cells (rC (D.remove n).1))) := by
  refine HC.up (HC47 ?_)
  unfold c47
  refine head1 hr hw hf n fun u hm => ?_
  obtain ⟨e1, e2, e3, e4, e5, e6⟩ := ask_same D
  have hw1 := hw.ask (by omega)
  simp only [neq3, bindO]
  by_cases he : D.err [n] = 0
  rotate_left
  · simp only [he, decide_false, Bool.not_false, hcond]
    exact hm.end_ (by unfold DK.remove; rw [if_pos he]) (by unfold DK.remove; rw [if_pos he])
  have hnw := hw.nw
  simp only [he, decide_true, Bool.not_true, hcond, hvNil, hvFld, hm.l2, e1]
  refine (find52 D.now (by omega) n u).mono ?_
  rintro _ t ⟨rfl, rfl⟩
  rcases idx_look D.now n with ⟨h1, h2⟩ | ⟨k, i, h1, h2, h3, h4⟩
  · rw [h2]
    simp only [lss_n, show decide ((-1 : Int) < 0) = true from rfl, hcond]
    exact hm.end_ (by unfold DK.remove; rw [if_neg (fun h => h he), h1]) (by unfold DK.remove; rw [if_neg (fun h => h he), h1])
  rw [h3]
  have hk0 : ¬ (k : Int) < 0 := by omega
  have hrn : D.remove n = (D.ask.name ⟨3, n, [], 0⟩, 0) := by
    unfold DK.remove
    rw [if_neg (fun h => h he), h1]
  simp only [lss_n, hk0, decide_false]
  rw [show vMk [(0, 1), (1, 1), (2, 1), (3, 1)] [.lit (.int .i64 0), .lit (.string .empty), .lit (.string .empty), .lit (.int .i64 0)] [(0, (.lit (.int .i64 3))), (1, strV n)] = some (.agg (acC ⟨3, n, [], 0⟩)) from rfl]
  simp only
  refine (names62 hm.1 hw1 ⟨3, n, [], 0⟩).mono ?_
  rintro _ w ⟨rfl, rfl⟩
  rw [hrn]
  exact (hm.set _).fin _
theorem syncDir48 (hr : s r = some (.cells (rC D))) (hw : Wf K D) (hf : Lf D) :
    HC Try.prog 48 [.ptr r 0] s (fun v t => v = .lit (.int .i64 D.syncDir.2) ∧ t = s.set r (.cells (rC D.syncDir.1))) := by
  refine HC.up (HC48 ?_)
  unfold c48
  refine (act61 hr hw hf (ns := []) (.inl ⟨rfl, rfl⟩) (by simp)).mono ?_
  rintro _ u ⟨rfl, hu⟩
  have hm : Dm s u r D.ask := ⟨by rw [hu, set_at], by rw [hu]; exact Keep.set _ _ _⟩
  clear hu
  obtain ⟨e1, e2, e3, e4, e5, e6⟩ := ask_same D
  simp only [neq3, bindO]
  by_cases he : D.err [] = 0
  rotate_left
  · simp only [he, decide_false, Bool.not_false, hcond]
    exact hm.end_ (by unfold DK.syncDir; rw [if_pos he]) (by unfold DK.syncDir; rw [if_pos he])
  simp only [he, decide_true, Bool.not_true, hcond, hvNil, hvFld, hm.l2, e1]
  refine store1 hm.1 (by simp [rC]) rfl rfl rfl ?_
  refine store1 (set_at _ _ _) (by simp [rC]) rfl rfl rfl ?_
  rw [set_set, syncDir_ok he]
  have hu := canR (t := u.set r (.cells ([.lit (.int .i64 D.room), rowL filC 2 D.files, rowL nmC 2 D.now, rowL nmC 2 D.now] ++ nilV :: [.lit (.int .i64 (lefD D.ask)), .lit (.bool D.ask.off), .lit (.int .i64 D.ask.ops)]))) (s := s) (r := r) (pre := [.lit (.int .i64 D.room), rowL filC 2 D.files, rowL nmC 2 D.now, rowL nmC 2 D.now]) (A := nilV) (sz := 4) (n := 0) (cs := []) (set_at _ _ _) (by
    intro x hx
    simp only [List.cons_append, List.nil_append, List.mem_cons, List.not_mem_nil, or_false] at hx
    rcases hx with rfl | rfl | rfl | rfl | rfl | rfl | rfl <;> rfl) (.inl ⟨rfl, rfl, rfl⟩) (fun k ob hk hs => by rw [set_ne _ _ hk]; exact hm.2 k ob hk hs) (fun q cs => ⟨rfl, rfl⟩) [.lit (.int .i64 0)] (fun q cs => rfl)
  refine ⟨_, _, ?_, rfl, rfl⟩
  have ee : (((rC D.ask).set 3 (rowL nmC 2 D.now)).set 4 nilV) = [.lit (.int .i64 D.room), rowL filC 2 D.files, rowL nmC 2 D.now, rowL nmC 2 D.now] ++ nilV :: [.lit (.int .i64 (lefD D.ask)), .lit (.bool D.ask.off), .lit (.int .i64 D.ask.ops)] := by
    unfold rC
    rw [e1, e4, e5]
    rfl
  have e7 : rC { D.ask with safe := D.now, acts := [] } = [.lit (.int .i64 D.room), rowL filC 2 D.files, rowL nmC 2 D.now, rowL nmC 2 D.now] ++ .list 4 0 [] false :: [.lit (.int .i64 (lefD D.ask)), .lit (.bool D.ask.off), .lit (.int .i64 D.ask.ops)] := by
    unfold rC
    simp only [e1, e4, e5]
    rfl
  rw [e7]
  rw [← ee] at hu
  exact hu
end
end Go.Proofs.Ythfoanmokcepcaa.DS
end
section
namespace Go.Proofs.Ythfoanmokcepcaa.DS
open Go.Proofs.Ythfoanmokcepcaa.H Go.Proofs.Ythfoanmokcepcaa.AS Go.Proofs.Ythfoanmokcepcaa.X0
set_option linter.unusedVariables false
set_option linter.unusedSimpArgs false
set_option maxRecDepth 100000
structure ST where
  kind : Int
  a : By
  tt : By
  b : List Int
  n : Int
def stC (x : ST) : List HV := [.lit (.int .i64 x.kind), strV x.a, strV x.tt, byV x.b, .lit (.int .i64 x.n)]
theorem stC_len (x : ST) : (stC x).length = 5 := rfl
def sd0 : ST := ⟨0, [], [], [], 0⟩
def natC (a : Nat) : List HV := [.lit (.int .i64 (a : Int))]
theorem natC_len (a : Nat) : (natC a).length = 1 := rfl
theorem sum10 {n : Int} {vs : List Nat} {q : Nat} {f : Bool} {s : HS} (hq : s q = some (.cells (rows natC vs))) (hl : vs.length ≤ 1000) (ha : ∀ a ∈ vs, a < 9223372036854775808) (hn : 0 ≤ n) (hn' : n ≤ 1099511627776) :
    HC Try.prog 10 [.lit (.int .i64 n), .view q 0 1 vs.length f] s (fun v t => t = s ∧ ∃ m : Int, v = .lit (.int .i64 m) ∧ n ≤ m ∧ m ≤ 1099511627776 ∧ (m < 1099511627776 → n + (vs.map fun a : Nat => (a : Int)).sum = m)) := by
  refine HC10 ?_
  unfold c10
  refine HLoop.ghost (σ := Int × Nat) (fun x => [.lit (.int .i64 x.1), .lit (.int .i64 (x.2 : Int))]) (fun x t => x.2 ≤ vs.length ∧ t = s ∧ n ≤ x.1 ∧ x.1 ≤ 1099511627776 ∧ n + ((vs.take x.2).map fun a : Nat => (a : Int)).sum = x.1) (fun x => vs.length - x.2) (n, 0) rfl ⟨Nat.zero_le _, rfl, Int.le_refl _, hn', by simp⟩ ?_
  rintro ⟨m, i⟩ t K' ⟨h1, rfl, h2, h3, h4⟩ hK
  simp only at h1 h2 h3 h4
  simp only [List.headD_cons, List.tail_cons]
  rw [show vLenT (Try.prog.underlying 24) t (.view q 0 1 vs.length f) = some (.lit (.int .i64 ((vs.length : Nat) : Int))) from rfl]
  simp only [bindO, lss_i]
  by_cases hlt : i < vs.length
  · have hm := getD_memD 0 hlt
    have htk := take_succ' 0 vs hlt
    have hv := ha _ hm
    have x1 : vIdx 1 (.view q 0 1 vs.length f) (.lit (.int .i64 (i : Int))) = some (.ptr q i) := by
      have h1 : (i : Int) < (vs.length : Int) := by omega
      simp [vIdx, h1]
    have x2 : vLoad t (.ptr q i) 1 false = some (.lit (.int .i64 ((vs.getD i 0 : Nat) : Int))) := by
      have := load_rows1 natC_len 0 (rest := []) (by rw [List.append_nil]; exact hq) hlt (j := 0) (n := 1) (by omega)
      rw [Nat.mul_one, Nat.add_zero] at this
      rw [this]
      rfl
    generalize vs.getD i 0 = v at *
    simp only [hlt, decide_true, hcond]
    refine Join.of (fun xs u => u = t ∧ xs = [.lit (.bool (decide (1099511627776 < m + (v : Int))))]) ?_ ?_
    · rintro _ u ⟨rfl, rfl⟩
      simp only [List.headD_cons, x1, x2]
      by_cases hc : 1099511627776 < m + (v : Int)
      · simp only [hc, decide_true]
        exact ⟨trivial, 1099511627776, rfl, by omega, by omega, fun h => by omega⟩
      · simp only [hc, decide_false]
        rw [add_n (by omega) (by omega)]
        simp only [inc_i hlt (by omega)]
        refine hK (m + v, i + 1) _ _ rfl ⟨hlt, rfl, by show n ≤ m + v; omega, by show m + (v : Int) ≤ _; omega, ?_⟩ (by show vs.length - (i + 1) < vs.length - i; omega)
        rw [htk, List.map_append, List.sum_append, List.map_cons, List.map_nil, List.sum_cons, List.sum_nil]
        show n + (_ + ((v : Int) + 0)) = m + v
        omega
    · intro K6 hK6
      simp only [gtr_n, x1, x2]
      by_cases hc : 1099511627776 < m
      · omega
      · simp only [hc, decide_false]
        rw [sub_n (by omega) (by omega)]
        simp only [gtr_n]
        exact hK6 _ _ ⟨rfl, by rw [show decide (1099511627776 - m < (v : Int)) = decide (1099511627776 < m + (v : Int)) from by rw [decide_eq_decide]; omega]⟩
  · obtain rfl : i = vs.length := by omega
    rw [List.take_length] at h4
    simp only [hlt, decide_false, hcond]
    exact ⟨trivial, m, rfl, h2, h3, fun _ => h4⟩
/-- What all steps hold. -/
structure OkS (l : List ST) : Prop where
  len : l.length ≤ 9223372036854775807
  st : ∀ x ∈ l, x.a.length ≤ 9223372036854775807 ∧ x.tt.length ≤ 9223372036854775807 ∧ x.b.length ≤ 9223372036854775807 ∧ -9223372036854775808 ≤ x.n ∧ x.n ≤ 9223372036854775807
theorem small26 (l : List ST) (hz : OkS l) (s : HS) : HC Try.prog 26 [rowL stC 5 l] s (fun v t => t = s ∧ ∃ r : Bool, v = .lit (.bool r) ∧ (r = true → l.length ≤ 80 ∧ (l.map fun y : ST => (y.b.length : Int)).sum ≤ 1000)) := by
  refine HC.weaken (HC26 ?_)
  unfold c26
  have ln : ∀ u, vLenT (Try.prog.underlying 48) u (rowL stC 5 l) = some (.lit (.int .i64 ((l.length : Nat) : Int))) := fun u => rfl
  have lb : ∀ u (b : List Int), vLenT (Try.prog.underlying 22) u (byV b) = some (.lit (.int .i64 ((b.length : Nat) : Int))) := fun u b => rfl
  have i1 := fun i (hi : i < l.length) => idx_rowL stC_len sd0 l .i64 hi
  have hzl := hz.len
  refine HLoop.ghost (σ := Int × Nat) (fun x => [.lit (.int .i64 x.1), .lit (.int .i64 (x.2 : Int))]) (fun x t => HS.le s t ∧ x.2 ≤ l.length ∧ 0 ≤ x.1 ∧ x.1 ≤ 1099511627776 ∧ (x.1 ≤ 1000 → ((l.take x.2).map fun y : ST => (y.b.length : Int)).sum ≤ x.1)) (fun x => l.length - x.2) (0, 0) rfl ⟨le_refl' s, Nat.zero_le _, Int.le_refl 0, by show (0 : Int) ≤ _; omega, fun _ => Int.le_refl 0⟩ ?_
  rintro ⟨n, i⟩ t K ⟨h0, h1, h2, h3, h4⟩ hK
  simp only at h0 h1 h2 h3 h4
  simp only [List.headD_cons, List.tail_cons, ln, lss_i, bindO]
  refine Join.of (fun xs u => u = t ∧ xs = [.lit (.bool (decide (i < l.length ∧ n ≤ 1000)))]) ?_ ?_
  rotate_left
  · intro K4 hK4
    by_cases hlt : i < l.length
    · simp only [hlt, decide_true, hcond, leq_n]
      exact hK4 _ _ ⟨rfl, by rw [show decide (i < l.length ∧ n ≤ 1000) = decide (n ≤ 1000) from by simp [hlt]]⟩
    · simp only [hlt, decide_false, hcond]
      exact hK4 _ _ ⟨rfl, by simp [hlt]⟩
  rintro _ u ⟨rfl, rfl⟩
  simp only [List.headD_cons]
  by_cases hgo : i < l.length ∧ n ≤ 1000
  · obtain ⟨hlt, hn5⟩ := hgo
    have htk := take_succ' sd0 l hlt
    obtain ⟨z1, z2, z3, -, -⟩ := hz.st _ (getD_memD sd0 hlt)
    simp only [hlt, hn5, and_self, decide_true, hcond, i1 i hlt, fldE, load_elt1, stC, List.getElem?_cons_succ, List.getElem?_cons_zero, lenS, lb]
    refine hBS_in (cs := rows natC [(l.getD i sd0).a.length, (l.getD i sd0).tt.length, (l.getD i sd0).b.length, 1]) rfl fun X hX => ?_
    have hle := le_set_new (.cells (rows natC [(l.getD i sd0).a.length, (l.getD i sd0).tt.length, (l.getD i sd0).b.length, 1])) (le_refl' u) hX
    refine (sum10 (vs := [(l.getD i sd0).a.length, (l.getD i sd0).tt.length, (l.getD i sd0).b.length, 1]) (set_at _ _ _) (by simp) (fun a ha => by
      simp only [List.mem_cons, List.not_mem_nil, or_false] at ha
      rcases ha with rfl | rfl | rfl | rfl <;> omega) h2 h3).mono ?_
    rintro v w ⟨rfl, m, rfl, g1, g2, g3⟩
    simp only [inc_i hlt (by omega)]
    refine hK (m, i + 1) _ _ rfl ⟨HS.le.trans h0 hle, hlt, by show 0 ≤ m; omega, g2, fun hm => ?_⟩ (by show l.length - (i + 1) < l.length - i; omega)
    have hm' : m ≤ 1000 := hm
    have h5 := h4 hn5
    have h6 := g3 (by omega)
    simp only [List.map_cons, List.map_nil, List.sum_cons, List.sum_nil] at h6
    rw [htk, List.map_append, List.sum_append, List.map_cons, List.map_nil, List.sum_cons, List.sum_nil]
    show _ ≤ m
    omega
  · simp only [hgo, decide_false, hcond, leq_n]
    by_cases hn : n ≤ 1000
    · obtain rfl : i = l.length := by omega
      rw [List.take_length] at h4
      simp only [hn, decide_true]
      refine ⟨s, h0, rfl, _, rfl, fun h => ⟨?_, Int.le_trans (h4 hn) hn⟩⟩
      have := of_decide_eq_true h
      omega
    · simp only [hn, decide_false]
      exact ⟨s, h0, rfl, false, rfl, fun h => by cases h⟩
theorem sumB_le {l : List ST} {m : Int} (h : (l.map fun y : ST => (y.b.length : Int)).sum ≤ m) : ∀ x ∈ l, (x.b.length : Int) ≤ m := by
  induction l generalizing m with
  | nil => intro x hx; cases hx
  | cons y l ih =>
    rw [List.map_cons, List.sum_cons] at h
    have nn : ∀ l : List ST, 0 ≤ (l.map fun y : ST => (y.b.length : Int)).sum := fun l => by
      induction l with
      | nil => exact Int.le_refl 0
      | cons z l ih => rw [List.map_cons, List.sum_cons]; omega
    have := nn l
    intro x hx
    rcases List.mem_cons.1 hx with rfl | hx
    · omega
    · have := ih (m := m - y.b.length) (by omega) x hx
      omega
def DK.step (D : DK) (x : ST) : DK × Int := if x.kind = 1 then D.append x.a x.b else if x.kind = 2 then D.truncate x.a x.n else if x.kind = 3 then D.sync x.a else if x.kind = 4 then D.rename x.a x.tt else if x.kind = 5 then D.remove x.a else if x.kind = 6 then D.syncDir else if x.kind = 7 then (D.cutAt x.n, 0) else (D, 0)
section
variable {K : Nat} {D : DK}
theorem Wf.step (h : Wf K D) (x : ST) (hn : x.n ≤ 9223372036854775807) (hk : K + x.b.length + 3 ≤ 1000000) : Wf (K + x.b.length + 3) (D.step x).1 := by
  unfold DK.step
  split
  · exact h.append x.a x.b hk
  split
  · exact (h.truncate x.a x.n (by omega)).mono (by omega) hk
  split
  · exact (h.sync x.a (by omega)).mono (by omega) hk
  split
  · exact (h.rename x.a x.tt (by omega)).mono (by omega) hk
  split
  · exact (h.remove x.a (by omega)).mono (by omega) hk
  split
  · exact (h.syncDir (by omega)).mono (by omega) hk
  split
  · exact (h.cutAt hn).mono (by omega) hk
  · exact h.mono (by omega) hk
theorem Ch.step (h : Ch D) (x : ST) : Ch (D.step x).1 := by
  unfold DK.step
  split
  · exact h.append x.a x.b
  split
  · exact h.truncate x.a x.n
  split
  · exact h.sync x.a
  split
  · exact h.rename x.a x.tt
  split
  · exact h.remove x.a
  split
  · exact h.syncDir
  split
  · exact h.cutAt x.n
  · exact h
theorem Lf.of (h : Lf D) {D' : DK} (h1 : D'.cut = D.ask.cut) (h2 : D'.left = D.ask.left) : Lf D' := by
  have := h.ask
  unfold Lf at *
  rw [h1, h2]
  exact this
theorem Lf.step (h : Lf D) (x : ST) : Lf (D.step x).1 := by
  unfold DK.step
  split
  · unfold DK.append
    split
    · exact h.ask
    split
    · exact h.ask
    split <;> exact h.of rfl rfl
  split
  · unfold DK.truncate
    split
    · exact h.ask
    split
    · exact h.ask
    split <;> exact h.of rfl rfl
  split
  · unfold DK.sync
    split
    · exact h.ask
    split <;> exact h.of rfl rfl
  split
  · unfold DK.rename
    split
    · exact h.ask
    split
    · exact h.ask
    split <;> exact h.of rfl rfl
  split
  · unfold DK.remove
    split
    · exact h.ask
    split <;> exact h.of rfl rfl
  split
  · unfold DK.syncDir
    split
    · exact h.ask
    · exact h.of rfl rfl
  split
  · intro _
    show 0 ≤ max x.n 0
    omega
  · exact h
end
/-- The program's disk, and the document's, in the memory that is theirs. -/
def Two (H : HS) (d : Nat) (D : DK) (r : Nat) (E : DK) : Prop := ∃ h, PS h d D ∧ h r = none ∧ H = h.set r (.cells (rC E))
section
variable {s t H h h' : HS} {d r K : Nat} {D E : DK}
theorem Two.at_ (hT : Two H d D r E) (hl : HS.le H s) : s r = some (.cells (rC E)) := by
  obtain ⟨h, -, -, rfl⟩ := hT
  exact hl _ _ (set_at _ _ _)
theorem Turn.two {o : HObj} (hT : Turn s h t h') (hr : h r = none) (ho : s r = some o) (o' : HObj) : Turn s (h.set r o) (t.set r o') (h'.set r o') ∧ h' r = none := by
  refine ⟨⟨le_set hT.1 _ _, fun k ob h1 h2 => ?_⟩, (hT.2 r o hr ho).2⟩
  have hne : k ≠ r := fun e => by subst e; rw [set_at] at h1; cases h1
  rw [set_ne _ _ hne] at h1
  rw [set_ne _ _ hne, set_ne _ _ hne]
  exact hT.2 k ob h1 h2
theorem does29 (h2 : Two H d D r E) (hl : HS.le H s) (hw : Wf K D) (hc : Ch D) (hw2 : Wf K E) (hf : Lf E) (x : ST) (hx : x.b.length ≤ 1000) (hn : -9223372036854775808 ≤ x.n ∧ x.n ≤ 9223372036854775807) (hk : K ≤ 990000) :
    HC Try.prog 29 [.ptr d 0, .ptr r 0, .agg (stC x)] s (fun v t => v = .tup [.lit (.int .i64 (D.step x).2), .lit (.int .i64 (E.step x).2)] ∧ ∃ H', Two H' d (D.step x).1 r (E.step x).1 ∧ Turn s H t H') := by
  refine HC29 ?_
  unfold c29
  refine hbox_intro (hc_agg _) fun p hp => ?_
  have hle := le_set_new (.cells (stC x)) (le_refl' s) hp
  have hp1 : (s.set p (.cells (stC x))) p = some (.cells (stC x)) := set_at _ _ _
  have hHp : H p = none := none_of_le hl hp
  have hT0 := Turn.junk hl hle
  generalize s.set p (.cells (stC x)) = s1 at *
  obtain ⟨h, hP, hhr, rfl⟩ := h2
  have hrs : s1 r = some (.cells (rC E)) := hT0.1 _ _ (set_at _ _ _)
  have hpr : p ≠ r := fun e => by subst e; rw [set_at] at hHp; cases hHp
  have hhp : h p = none := by rw [set_ne _ _ hpr] at hHp; exact hHp
  have hhs : HS.le h s1 := fun k o hk => hT0.1 _ _ (by
    rw [set_ne _ _ (fun e => by rw [e, hhr] at hk; cases hk)]; exact hk)
  have ld := fun k => ld_at hp1 k
  have fin : ∀ {D' E' : DK} {e f : Int} {t : HS} {h' : HS}, PS h' d D' → Turn s1 h t h' → D.step x = (D', e) → E.step x = (E', f) → (HV.tup [.lit (.int .i64 e), .lit (.int .i64 f)] = .tup [.lit (.int .i64 (D.step x).2), .lit (.int .i64 (E.step x).2)] ∧ ∃ H', Two H' d (D.step x).1 r (E.step x).1 ∧ Turn s (h.set r (.cells (rC E))) (t.set r (.cells (rC E'))) H') := by
    intro D' E' e f t h' hP' hT' e1 e2
    obtain ⟨q1, q2⟩ := hT'.two hhr hrs (.cells (rC E'))
    rw [e1, e2]
    exact ⟨rfl, _, ⟨h', hP', q2, rfl⟩, hT0.trans q1⟩
  have kept : ∀ {t h' : HS}, Turn s1 h t h' → t r = some (.cells (rC E)) ∧ ∀ k, vLoad t (.ptr p k) 1 false = (stC x)[k]? := fun {t h'} hT' => ⟨(hT'.2 r _ hhr hrs).1, fun k => ld_at (hT'.2 p _ hhp hp1).1 k⟩
  refine Join.of (fun _ u => ∃ D' E' h' t', PS h' d D' ∧ Turn s1 h t' h' ∧ D.step x = (D', 0) ∧ E.step x = (E', 0) ∧ u = t'.set r (.cells (rC E'))) ?_ ?_
  · rintro _ u ⟨D', E', h', t', k1, k2, k3, k4, rfl⟩
    exact fin k1 k2 k3 k4
  intro K3 hK3
  have hst : ∀ (D : DK), D.step x = if x.kind = 1 then D.append x.a x.b else if x.kind = 2 then D.truncate x.a x.n else if x.kind = 3 then D.sync x.a else if x.kind = 4 then D.rename x.a x.tt else if x.kind = 5 then D.remove x.a else if x.kind = 6 then D.syncDir else if x.kind = 7 then (D.cutAt x.n, 0) else (D, 0) := fun D => rfl
  simp only [hvFld, bindO, ld, stC, List.getElem?_cons_succ, List.getElem?_cons_zero, eql3]
  by_cases c1 : x.kind = 1
  · simp only [c1, decide_true, hcond]
    refine (append13 hP hhs hw hc x.a (b := x.b) (.inl ⟨_, rfl⟩) (by omega) (by omega)).mono ?_
    rintro _ t ⟨rfl, h', hP', hT'⟩
    obtain ⟨g1, g2⟩ := kept hT'
    refine ⟨g2 3, g2 1, ?_⟩
    refine (append43 g1 hw2 hf x.a x.b (by omega) (by omega)).mono ?_
    rintro _ u ⟨rfl, rfl⟩
    exact fin hP' hT' (by rw [hst, if_pos c1]) (by rw [hst, if_pos c1])
  simp only [c1, decide_false, hcond]
  by_cases c2 : x.kind = 2
  · simp only [c2, decide_true]
    refine (truncate24 hP hhs hw x.a x.n hn).mono ?_
    rintro _ t ⟨rfl, h', hP', hT'⟩
    obtain ⟨g1, g2⟩ := kept hT'
    refine ⟨g2 4, g2 1, ?_⟩
    refine (truncate44 g1 hw2 hf x.a x.n (by omega)).mono ?_
    rintro _ u ⟨rfl, rfl⟩
    exact fin hP' hT' (by rw [hst, if_neg c1, if_pos c2]) (by rw [hst, if_neg c1, if_pos c2])
  simp only [c2, decide_false]
  by_cases c3 : x.kind = 3
  · simp only [c3, decide_true]
    refine (sync14 hP hhs hw x.a).mono ?_
    rintro _ t ⟨rfl, h', hP', hT'⟩
    obtain ⟨g1, g2⟩ := kept hT'
    refine ⟨g2 1, ?_⟩
    refine (sync45 g1 hw2 hf x.a (by omega)).mono ?_
    rintro _ u ⟨rfl, rfl⟩
    exact fin hP' hT' (by rw [hst, if_neg c1, if_neg c2, if_pos c3]) (by rw [hst, if_neg c1, if_neg c2, if_pos c3])
  simp only [c3, decide_false]
  by_cases c4 : x.kind = 4
  · simp only [c4, decide_true]
    refine (rename18 hP hhs hw x.a x.tt).mono ?_
    rintro _ t ⟨rfl, h', hP', hT'⟩
    obtain ⟨g1, g2⟩ := kept hT'
    refine ⟨g2 2, g2 1, ?_⟩
    refine (rename46 g1 hw2 hf x.a x.tt (by omega)).mono ?_
    rintro _ u ⟨rfl, rfl⟩
    exact fin hP' hT' (by rw [hst, if_neg c1, if_neg c2, if_neg c3, if_pos c4]) (by rw [hst, if_neg c1, if_neg c2, if_neg c3, if_pos c4])
  simp only [c4, decide_false]
  by_cases c5 : x.kind = 5
  · simp only [c5, decide_true]
    refine (remove25 hP hhs hw x.a).mono ?_
    rintro _ t ⟨rfl, h', hP', hT'⟩
    obtain ⟨g1, g2⟩ := kept hT'
    refine ⟨g2 1, ?_⟩
    refine (remove47 g1 hw2 hf x.a (by omega)).mono ?_
    rintro _ u ⟨rfl, rfl⟩
    exact fin hP' hT' (by rw [hst, if_neg c1, if_neg c2, if_neg c3, if_neg c4, if_pos c5]) (by rw [hst, if_neg c1, if_neg c2, if_neg c3, if_neg c4, if_pos c5])
  simp only [c5, decide_false]
  by_cases c6 : x.kind = 6
  · simp only [c6, decide_true]
    refine (syncDir15 hP hhs hw).mono ?_
    rintro _ t ⟨rfl, h', hP', hT'⟩
    obtain ⟨g1, g2⟩ := kept hT'
    refine (syncDir48 g1 hw2 hf).mono ?_
    rintro _ u ⟨rfl, rfl⟩
    exact fin hP' hT' (by rw [hst, if_neg c1, if_neg c2, if_neg c3, if_neg c4, if_neg c5, if_pos c6]) (by rw [hst, if_neg c1, if_neg c2, if_neg c3, if_neg c4, if_neg c5, if_pos c6])
  simp only [c6, decide_false]
  by_cases c7 : x.kind = 7
  · simp only [c7, decide_true]
    refine (cut27 hP hhs x.n).mono ?_
    rintro _ t ⟨rfl, h', hP', hT'⟩
    obtain ⟨g1, g2⟩ := kept hT'
    rw [g2 4]
    simp only [stC, List.getElem?_cons_succ, List.getElem?_cons_zero]
    refine (cut49 g1 x.n).mono ?_
    rintro _ u ⟨rfl, rfl⟩
    exact hK3 _ _ ⟨_, _, h', t, hP', hT', by rw [hst, if_neg c1, if_neg c2, if_neg c3, if_neg c4, if_neg c5, if_neg c6, if_pos c7], by rw [hst, if_neg c1, if_neg c2, if_neg c3, if_neg c4, if_neg c5, if_neg c6, if_pos c7], rfl⟩
  simp only [c7, decide_false]
  refine hK3 _ _ ⟨D, E, h, s1, hP, Turn.refl hhs, by rw [hst, if_neg c1, if_neg c2, if_neg c3, if_neg c4, if_neg c5, if_neg c6, if_neg c7], by rw [hst, if_neg c1, if_neg c2, if_neg c3, if_neg c4, if_neg c5, if_neg c6, if_neg c7], ?_⟩
  funext k
  by_cases e : k = r
  · subst e; rw [set_at]; exact hrs
  · rw [set_ne _ _ e]
end
end Go.Proofs.Ythfoanmokcepcaa.DS
end
section
namespace Go.Proofs.Ythfoanmokcepcaa.DS
open Go.Proofs.Ythfoanmokcepcaa.H Go.Proofs.Ythfoanmokcepcaa.AS
set_option linter.unusedVariables false
set_option linter.unusedSimpArgs false
def safe_ : By := [115, 97, 102, 101]
/-- A file that nobody touches. -/
structure Sf (k B : Nat) (b : List Int) (D : DK) : Prop where
  room : D.room = 1048576
  nw : D.now.length ≤ 1 + k
  sl : D.safe.length ≤ 1 + k
  al : D.acts.length ≤ k
  fb : ∀ f ∈ D.files, f.b.length ≤ B
  ln : look D.now safe_ = some 0
  ls : look D.safe safe_ = some 0
  pos : 0 < D.files.length
  f0 : D.files.getD 0 fl0 = ⟨b, b.length⟩
  on : ∀ x ∈ D.now, x.2 = 0 → x.1 = safe_
  acts : ∀ a ∈ D.acts, a.a ≠ safe_ ∧ (a.kind = 2 → a.b ≠ safe_)
section
variable {k B : Nat} {b : List Int} {D : DK}
theorem Sf.mono {k' B' : Nat} (h : Sf k B b D) (hk : k ≤ k') (hB : B ≤ B') : Sf k' B' b D :=
  ⟨h.room, by have := h.nw; omega, by have := h.sl; omega, by have := h.al; omega, fun f hf => Nat.le_trans (h.fb f hf) hB, h.ln, h.ls, h.pos, h.f0, h.on, h.acts⟩
theorem Sf.ask (h : Sf k B b D) : Sf k B b D.ask := by
  obtain ⟨e1, e2, e3, e4, e5, e6⟩ := ask_same D
  exact ⟨by rw [e5]; exact h.room, by rw [e1]; exact h.nw, by rw [e2]; exact h.sl, by rw [e3]; exact h.al, by rw [e4]; exact h.fb, by rw [e1]; exact h.ln, by rw [e2]; exact h.ls, by rw [e4]; exact h.pos, by rw [e4]; exact h.f0, by rw [e1]; exact h.on, by rw [e3]; exact h.acts⟩
theorem Sf.setF (h : Sf k B b D) {i : Nat} (hi : i ≠ 0) {f : Fl} (hf : f.b.length ≤ B) : Sf k B b (D.setF i f) := by
  refine ⟨h.room, h.nw, h.sl, h.al, fun g hg => ?_, h.ln, h.ls, by show 0 < (D.files.set i f).length; rw [List.length_set]; exact h.pos, ?_, h.on, h.acts⟩
  · rcases List.mem_or_eq_of_mem_set hg with hg | rfl
    · exact h.fb g hg
    · exact hf
  · show (D.files.set i f).getD 0 fl0 = _
    rw [← h.f0]
    simp [List.getD, List.getElem?_set, hi]
theorem len_applyA (l : List Nm) (a : AC) : (applyA l a).length ≤ l.length + 1 := by
  have := len_foldl [a] l
  exact this
theorem look_applyA {l : List Nm} {a : AC} (h : look l safe_ = some 0) (h1 : a.a ≠ safe_) (h2 : a.kind = 2 → a.b ≠ safe_) : look (applyA l a) safe_ = some 0 := by
  unfold applyA
  split
  · rw [look_with, if_neg (fun e => h1 e.symm)]; exact h
  · split
    · rw [look_with, if_neg (fun e => h2 (by assumption) e.symm), look_without, if_neg (fun e => h1 e.symm)]; exact h
    · rw [look_without, if_neg (fun e => h1 e.symm)]; exact h
theorem mem_withN {l : List Nm} {n : By} {i : Nat} {x : Nm} (h : x ∈ withN l n i) : x ∈ l ∨ x = (n, i) := by
  unfold withN at h
  rcases List.mem_append.1 h with h | h
  · exact .inl (List.mem_filter.1 h).1
  · rcases List.mem_cons.1 h with h | h
    · exact .inr h
    · exact .inl (List.mem_filter.1 h).1
theorem Sf.name (h : Sf k B b D) {a : AC} (h1 : a.a ≠ safe_) (h2 : a.kind = 2 → a.b ≠ safe_) (h3 : a.kind = 1 ∨ a.kind = 2 → a.f ≠ 0) : Sf (k + 1) B b (D.name a) := by
  refine ⟨h.room, ?_, by have := h.sl; show D.safe.length ≤ _; omega, ?_, h.fb, look_applyA h.ln h1 h2, h.ls, h.pos, h.f0, fun x hx h0 => ?_, fun c hc => ?_⟩
  · have h4 := len_applyA D.now a
    have := h.nw
    show (applyA D.now a).length ≤ _
    omega
  · have := h.al
    show (D.acts ++ [a]).length ≤ _
    rw [List.length_append, List.length_singleton]
    omega
  · have hx' : x ∈ applyA D.now a := hx
    unfold applyA at hx'
    split at hx'
    · rename_i hk
      rcases mem_withN hx' with hx' | rfl
      · exact h.on x hx' h0
      · exact absurd h0 (h3 (.inl hk))
    · split at hx'
      · rename_i hk
        rcases mem_withN hx' with hx' | rfl
        · exact h.on x (List.mem_filter.1 hx').1 h0
        · exact absurd h0 (h3 (.inr hk))
      · exact h.on x (List.mem_filter.1 hx').1 h0
  · have hc' : c ∈ D.acts ++ [a] := hc
    rcases List.mem_append.1 hc' with hc' | hc'
    · exact h.acts c hc'
    · rw [List.mem_singleton.1 hc']
      exact ⟨h1, h2⟩
theorem look_in {l : List Nm} {n : By} {i : Nat} (h : look l n = some i) : (n, i) ∈ l := by
  rcases idx_look l n with ⟨h1, -⟩ | ⟨k, j, h1, h2, -, h4⟩
  · rw [h1] at h; cases h
  · rw [h1] at h
    cases h
    rw [← h4]
    exact getD_memD nm0 h2
theorem Sf.ne0 (h : Sf k B b D) {n : By} {i : Nat} (hn : n ≠ safe_) (hl : look D.now n = some i) : i ≠ 0 := fun e => hn (h.on _ (look_in hl) e)
theorem getD_fb {files : List Fl} (h : ∀ f ∈ files, f.b.length ≤ B) (i : Nat) : (files.getD i fl0).b.length ≤ B := by
  by_cases hi : i < files.length
  · exact h _ (getD_memD fl0 hi)
  · rw [List.getD_eq_getElem?_getD, List.getElem?_eq_none (by omega)]
    exact Nat.zero_le _
theorem Sf.append (h : Sf k B b D) {n : By} (hn : n ≠ safe_) (c : List Int) : Sf (k + 1) (B + c.length) b (D.append n c).1 := by
  obtain ⟨e1, e2, e3, e4, e5, e6⟩ := ask_same D
  have ha := h.ask.mono (show k ≤ k + 1 by omega) (show B ≤ B + c.length by omega)
  unfold DK.append
  split
  · exact ha
  split
  · exact ha
  split
  · rename_i i hi
    refine ha.setF (h.ne0 hn hi) ?_
    have := getD_fb h.fb i
    rw [List.length_append]
    omega
  · have h1 : Sf k (B + c.length) b { D.ask with files := D.files ++ [fl0] } := by
      have ha := h.ask
      refine ⟨ha.room, ha.nw, ha.sl, ha.al, fun f hf => ?_, ha.ln, ha.ls, by show 0 < (D.files ++ [fl0]).length; simp, ?_, ha.on, ha.acts⟩
      · have hf' : f ∈ D.files ++ [fl0] := hf
        rcases List.mem_append.1 hf' with hf' | hf'
        · have := h.fb f hf'; omega
        · rw [List.mem_singleton.1 hf']; exact Nat.zero_le _
      · show (D.files ++ [fl0]).getD 0 fl0 = _
        rw [← h.f0]
        have := h.pos
        rw [List.getD_eq_getElem?_getD, List.getD_eq_getElem?_getD, List.getElem?_append_left this]
    have hp := h.pos
    exact (h1.name (a := ⟨1, n, [], D.files.length⟩) hn (fun h => by cases h) (fun _ => by show D.files.length ≠ 0; omega)).setF (by omega) (by show c.length ≤ _; omega)
theorem Sf.step (h : Sf k B b D) {x : ST} (h1 : x.a ≠ safe_) (h2 : x.tt ≠ safe_) (h3 : x.kind ≠ 7) : Sf (k + 1) (B + x.b.length) b (D.step x).1 := by
  obtain ⟨e1, e2, e3, e4, e5, e6⟩ := ask_same D
  have h0 := h.mono (show k ≤ k + 1 by omega) (show B ≤ B + x.b.length by omega)
  have ha := h0.ask
  unfold DK.step
  split
  · exact h.append h1 x.b
  split
  · unfold DK.truncate
    split
    · exact ha
    split
    · exact ha
    · rename_i i hi
      split
      · exact ha
      · refine ha.setF (h.ne0 h1 hi) ?_
        have := getD_fb h.fb i
        show ((D.files.getD i fl0).b.take _).length ≤ _
        rw [List.length_take]
        omega
  split
  · unfold DK.sync
    split
    · exact ha
    split
    · exact ha
    · rename_i i hi
      refine ha.setF (h.ne0 h1 hi) ?_
      have := getD_fb h.fb i
      show (D.files.getD i fl0).b.length ≤ _
      omega
  split
  · unfold DK.rename
    split
    · exact ha
    split
    · exact ha
    · rename_i i hi
      split
      · exact ha
      · exact (h.ask.name (a := ⟨2, x.a, x.tt, i⟩) h1 (fun _ => h2) (fun _ => h.ne0 h1 hi)).mono (by omega) (by omega)
  split
  · unfold DK.remove
    split
    · exact ha
    split
    · exact ha
    · exact (h.ask.name (a := ⟨3, x.a, [], 0⟩) h1 (fun h => by cases h) (fun h => by rcases h with h | h <;> cases h)).mono (by omega) (by omega)
  split
  · unfold DK.syncDir
    split
    · exact ha
    · exact ⟨ha.room, ha.nw, by have := h.nw; show D.now.length ≤ _; omega, Nat.zero_le _, ha.fb, ha.ln, h.ln, ha.pos, ha.f0, ha.on, fun a ha => by cases ha⟩
  exact h0
end
end Go.Proofs.Ythfoanmokcepcaa.DS
end
section
namespace Go.Proofs.Ythfoanmokcepcaa.DS
end Go.Proofs.Ythfoanmokcepcaa.DS
end
section
namespace Go.Proofs.Ythfoanmokcepcaa.DS
open Go.Proofs.Ythfoanmokcepcaa.H Go.Proofs.Ythfoanmokcepcaa.AS Go.Proofs.Ythfoanmokcepcaa.X0
set_option linter.unusedVariables false
set_option linter.unusedSimpArgs false
set_option maxRecDepth 100000
def DK.len (D : DK) (x : Nm) : Int := ((D.files.getD x.2 fl0).b.length : Int)
def encW (D : DK) (i : Nat) : List HV := [strV (D.now.getD i nm0).1, .lit (.int .i64 (D.len (D.now.getD i nm0)))]
theorem look_self {l : List Nm} (h : Srt l) {i : Nat} (hi : i < l.length) : look l (l.getD i nm0).1 = some (l.getD i nm0).2 := (look_mem h).2 (getD_memD nm0 hi)
theorem namesV_len (ns : List By) (u : HS) : vLenT (Try.prog.underlying 41) u (namesV ns) = some (.lit (.int .i64 ((ns.length : Nat) : Int))) := by
  unfold namesV accV
  by_cases e : ns.length = 0
  · rw [if_pos e, e]; rfl
  · rw [if_neg e]; rfl
theorem namesV_at (ns : List By) {i : Nat} (hi : i < ns.length) : vIdx 1 (namesV ns) (.lit (.int .i64 (i : Int))) = some (.elt [strV (ns.getD i [])] 0) := by
  unfold namesV accV
  rw [if_neg (by omega)]
  exact idx_rowL strC_len [] ns .i64 hi
section
variable {s h : HS} {d K : Nat} {D : DK}
theorem gives64 {b : Nat} (hP : PS h d D) (hl : HS.le h s) (hw : Wf K D) (hb : s b = some (.cells [.ptr d 0])) : GivesL Try.prog 64 [.ptr b 0] D.now.length (encW D) s := by
  intro idl J E s' hle hJ hJs hround h0
  have hnw := hw.nw
  have hkk := hw.k
  have f1 : ∀ t, HS.le s t → vLoad t (.ptr b 0) 1 false = some (.ptr d 0) := fun t ht => ld_at (ht _ _ hb) 0
  refine HC64 ?_
  unfold c64
  simp only [f1 s' hle, bindO]
  refine (names20 hP (HS.le.trans hl hle) hw).mono ?_
  rintro _ t1 ⟨rfl, hle1⟩
  have hnl : D.names.length = D.now.length := List.length_map ..
  simp only [namesV_len, hnl]
  refine HLoop.ghost (σ := Nat) (fun i => [.lit (.int .i64 (i : Int))]) (fun i t => i ≤ D.now.length ∧ J i t) (fun i => D.now.length - i) 0 rfl ⟨Nat.zero_le _, hJ _ _ _ h0 hle1⟩ ?_
  rintro i t K ⟨hi, hj⟩ hK
  simp only [List.headD_cons, lss_i]
  by_cases hlt : i < D.now.length
  · have hst := hJs _ _ hj
    have hni : D.names.getD i [] = (D.now.getD i nm0).1 := by
      unfold DK.names
      rw [List.getD, List.getElem?_map, List.getElem?_eq_getElem hlt, List.getD, List.getElem?_eq_getElem hlt]
      rfl
    have hlk := look_self hw.sn hlt
    simp only [hlt, decide_true, hcond, namesV_at D.names (show i < D.names.length by omega), hni, load_elt1, List.getElem?_cons_zero, f1 t hst]
    refine (size19 hP (HS.le.trans hl hst) hw (D.now.getD i nm0).1).mono ?_
    rintro _ t2 ⟨rfl, rfl⟩
    rw [hlk]
    simp only [hcall]
    refine hround i t2 _ hlt hj (fun t' h' => ?_) (fun t' h' => ?_)
    · simp only [vUn, Bool.not_true, inc_i hlt (by omega)]
      exact hK (i + 1) _ _ rfl ⟨hlt, h'⟩ (by show D.now.length - (i + 1) < D.now.length - i; omega)
    · simp only [vUn, Bool.not_false]
      exact .inr h'
  · obtain rfl : i = D.now.length := by omega
    simp only [hlt, decide_false, hcond]
    exact .inl hj
theorem plain64 : plainFn Try.prog 64 = true := by unfold plainFn; rw [Try.func64]; rfl
theorem all53 (a : HV) (s : HS) (ha : hcells a = some [a]) : HC Try.prog 53 [a] s (fun v t => ∃ b, s b = none ∧ v = .func (.func 64) [.ptr b 0] ∧ t = s.set b (.cells [a])) := by
  refine HC53 ?_
  unfold c53
  exact hbox_intro ha fun id hid => ⟨id, hid, rfl, rfl⟩
theorem up2 {b t : HS} {sz n k : Nat} {A B : HV} {cs ds : List HV} (hA : Acc b t sz A n cs) (hB : Acc b t sz B k ds) (hd : ∀ j, accId A = some j → accId B ≠ some j) (hb : HS.le b t) : UpL [.tup [A, B]] t [.tup [accV sz n cs, accV sz k ds]] b := by
  have second : ∀ (x : HV), (∀ q cs, frz1 q cs x = x) → ∀ u, Acc b u sz B k ds → HS.le b u → UpL [.tup [x, B]] u [.tup [x, accV sz k ds]] b := fun x hx u hB hb => by
    have := hB.upT hb [x] [] (fun q cs => by simp [hx]) (fun q cs => rfl)
    exact this
  rcases hA with ⟨rfl, rfl, rfl⟩ | ⟨q, f, h1, rfl, h3, h4, h5⟩
  · exact second _ (fun q cs => rfl) t hB hb
  · have hx : ∀ q' cs', frz1 q' cs' (accV sz n cs) = accV sz n cs := fun q' cs' => by
      unfold accV
      rw [if_neg h5]
      rfl
    have htk : cs.take (n * sz) = cs := List.take_of_length_le (by omega)
    have hqB : accId B ≠ some q := hd q rfl
    refine UpL.trans ?_ (second _ hx (match accId B with | some j => b.set j (.cells ds) | none => b) ?_ ?_)
    · have hu := UpL.frzD (xs := [.tup [.view q 0 sz n f, B]]) (s' := match accId B with | some j => b.set j (.cells ds) | none => b) h3 ?_ ?_
      · have hB' : frz1 q cs B = B := by
          rcases hB with ⟨rfl, -⟩ | ⟨q', f', -, rfl, -⟩
          · rfl
          · have : q' ≠ q := fun e => hqB (by rw [e]; rfl)
            simp [frz1, frz0, phi, this]
        have hA' : frz1 q cs (.view q 0 sz n f) = accV sz n cs := by
          simp [frz1, frz0, phi, h4, htk, accV, h5]
        have e : ([.tup [.view q 0 sz n f, B]] : List HV).map (frz2 q cs) = [.tup [accV sz n cs, B]] := by
          show [HV.tup [frz1 q cs (.view q 0 sz n f), frz1 q cs B]] = _
          rw [hA', hB']
        rw [e] at hu
        exact hu
      · rcases hB with ⟨rfl, -⟩ | ⟨q', f', g1, rfl, g3, -⟩
        · exact hb
        · intro j o hj
          have hj : (b.set q' (.cells ds)) j = some o := hj
          by_cases e : j = q'
          · subst e; rw [set_at] at hj; rw [g3]; exact hj
          · rw [set_ne _ _ e] at hj; exact hb _ _ hj
      · rcases hB with ⟨rfl, -⟩ | ⟨q', f', g1, rfl, g3, -⟩
        · exact h1
        · have : q ≠ q' := fun e => hqB (by rw [e]; rfl)
          show (b.set q' (.cells ds)) q = none
          rw [set_ne _ _ this]
          exact h1
    · rcases hB with ⟨rfl, e1, e2⟩ | ⟨q', f', g1, rfl, g3, g4⟩
      · exact .inl ⟨rfl, e1, e2⟩
      · exact .inr ⟨q', f', g1, rfl, set_at _ _ _, g4⟩
    · rcases hB with ⟨rfl, -⟩ | ⟨q', f', g1, rfl, g3, -⟩
      · exact le_refl' b
      · exact le_set_new _ (le_refl' b) g1
def sizesV (l : List Int) : HV := accV 1 l.length (rows intC l)
def DK.sizes (D : DK) : List Int := D.now.map D.len
theorem walk32 (hP : PS h d D) (hl : HS.le h s) (hw : Wf K D) (m : Nat) (hm : m ≤ 1000000) : HC Try.prog 32 [.ptr d 0, .lit (.int .i64 (m : Int))] s (fun v t => v = .tup [namesV (D.names.take m), sizesV (D.sizes.take m)] ∧ t = s) := by
  refine HC.up (HC32 ?_)
  unfold c32
  refine hbox_intro (hc_int _ _) fun p1 hp1 => ?_
  intro p3 hp3 p5 hp5
  have n31 : p3 ≠ p1 := fun e => by rw [e, set_at] at hp3; cases hp3
  have n53 : p5 ≠ p3 := fun e => by rw [e, set_at] at hp5; cases hp5
  have n51 : p5 ≠ p1 := fun e => by rw [e, set_ne _ _ (fun e => n31 e.symm), set_at] at hp5; cases hp5
  rw [set_ne _ _ n31] at hp3
  rw [set_ne _ _ n53, set_ne _ _ n51] at hp5
  have hle0 : HS.le s (((s.set p1 (.cells [.lit (.int .i64 (m : Int))])).set p3 (.cells [nilV])).set p5 (.cells [nilV])) := le_set_new _ (le_set_new _ (le_set_new _ (le_refl' s) hp1) (by rw [set_ne _ _ n31]; exact hp3)) (by rw [set_ne _ _ n53, set_ne _ _ n51]; exact hp5)
  refine (all53 (.ptr d 0) _ rfl).mono ?_
  rintro _ t ⟨b, hb, rfl, rfl⟩
  have qq : ∀ k ob, (((s.set p1 (.cells [.lit (.int .i64 (m : Int))])).set p3 (.cells [nilV])).set p5 (.cells [nilV])) k = some ob → k ≠ b := fun k ob hk => ne_new hk hb
  have q1 : (((s.set p1 (.cells [.lit (.int .i64 (m : Int))])).set p3 (.cells [nilV])).set p5 (.cells [nilV])) p1 = some (.cells [.lit (.int .i64 (m : Int))]) := by rw [set_ne _ _ n51.symm, set_ne _ _ n31.symm, set_at]
  have q3 : (((s.set p1 (.cells [.lit (.int .i64 (m : Int))])).set p3 (.cells [nilV])).set p5 (.cells [nilV])) p3 = some (.cells [nilV]) := by rw [set_ne _ _ n53.symm, set_at]
  have q5 : (((s.set p1 (.cells [.lit (.int .i64 (m : Int))])).set p3 (.cells [nilV])).set p5 (.cells [nilV])) p5 = some (.cells [nilV]) := set_at _ _ _
  have m1 := qq _ _ q1
  have m3 := qq _ _ q3
  have m5 := qq _ _ q5
  have hle1 := le_set_new (.cells [.ptr d 0]) hle0 hb
  have hsb : s b = none := none_of_le hle0 hb
  obtain ⟨s2, hs2⟩ : ∃ s2, (((s.set p1 (.cells [.lit (.int .i64 (m : Int))])).set p3 (.cells [nilV])).set p5 (.cells [nilV])).set b (.cells [.ptr d 0]) = s2 := ⟨_, rfl⟩
  have r1 : s2 p1 = some (.cells [.lit (.int .i64 (m : Int))]) := by rw [← hs2, set_ne _ _ m1]; exact q1
  have r3 : s2 p3 = some (.cells [nilV]) := by rw [← hs2, set_ne _ _ m3]; exact q3
  have r5 : s2 p5 = some (.cells [nilV]) := by rw [← hs2, set_ne _ _ m5]; exact q5
  have rb : s2 b = some (.cells [.ptr d 0]) := by rw [← hs2, set_at]
  rw [hs2] at hle1 ⊢
  clear hs2 q1 q3 q5 qq hle0 hb
  -- what lies still: s and the iterator's box
  have hss0 : HS.le s (s.set b (.cells [.ptr d 0])) := le_set_new _ (le_refl' s) hsb
  have hs02 : HS.le (s.set b (.cells [.ptr d 0])) s2 := fun k ob hk => by
    by_cases e : k = b
    · subst e; rw [set_at] at hk; rw [rb]; exact hk
    · rw [set_ne _ _ e] at hk; exact hle1 k ob hk
  have h03 : (s.set b (.cells [.ptr d 0])) p3 = none := by rw [set_ne _ _ m3]; exact hp3
  have h05 : (s.set b (.cells [.ptr d 0])) p5 = none := by rw [set_ne _ _ m5]; exact hp5
  have hit := gives64 hP (HS.le.trans hl hss0) hw (set_at s b (.cells [.ptr d 0]))
  generalize s.set b (.cells [.ptr d 0]) = s0 at *
  rw [show vCmp (Try.prog.underlying 103) .eql (.func (.func 64) [.ptr b 0]) (.lit .nilFunc) = some (.lit (.bool false)) from rfl]
  simp only [bindO, hcond]
  have hnl : D.names.length = D.now.length := List.length_map ..
  have hsl : D.sizes.length = D.now.length := List.length_map ..
  refine Join.of (fun _ t => HS.le s0 t ∧ ∃ A B, t p3 = some (.cells [A]) ∧ t p5 = some (.cells [B]) ∧ Acc s0 t 1 A (D.names.take m).length (rows strC (D.names.take m)) ∧ Acc s0 t 1 B (D.sizes.take m).length (rows intC (D.sizes.take m)) ∧ ∀ j, accId A = some j → accId B ≠ some j) ?_ ?_
  · rintro _ t ⟨g1, A, B, g2, g3, g4, g5, g6⟩
    simp only [ld_at g2, ld_at g3, List.getElem?_cons_zero]
    refine ⟨trivial, ?_⟩
    exact ⟨_, s, (up2 g4 g5 g6 g1).trans (UpL.le _ hss0), rfl, rfl⟩
  · intro K hK
    refine HRange.seqL plain64 hs02 hit (fun i _ => rfl) (fun i t => i ≤ m ∧ HS.le s0 t ∧ t p1 = some (.cells [.lit (.int .i64 (m : Int))]) ∧ ∃ A B, t p3 = some (.cells [A]) ∧ t p5 = some (.cells [B]) ∧ (accId A ≠ some p1 ∧ accId A ≠ some p3 ∧ accId A ≠ some p5) ∧ (accId B ≠ some p1 ∧ accId B ≠ some p3 ∧ accId B ≠ some p5) ∧ Acc s0 t 1 A (D.names.take i).length (rows strC (D.names.take i)) ∧ Acc s0 t 1 B (D.sizes.take i).length (rows intC (D.sizes.take i)) ∧ ∀ j, accId A = some j → accId B ≠ some j) (fun _ => False)
      (fun j t => j = 0 ∧ HS.le s0 t ∧ ∃ A B, t p3 = some (.cells [A]) ∧ t p5 = some (.cells [B]) ∧ Acc s0 t 1 A (D.names.take m).length (rows strC (D.names.take m)) ∧ Acc s0 t 1 B (D.sizes.take m).length (rows intC (D.sizes.take m)) ∧ ∀ j, accId A = some j → accId B ≠ some j) (fun i t h => h.2.1) ?_ (fun _ _ _ _ _ h => h) ?_ ?_ ?_ (fun _ h => h.elim) ?_ ?_
    · rintro idl i t t' hi hn ⟨g0, g1, g2, A, B, g3, g4, g5, g6, g7, g8, g9⟩
      exact ⟨g0, hn.le g1 (none_of_le hs02 hi), hn.cells g2, A, B, hn.cells g3, hn.cells g4, g5, g6, hn.acc g7, hn.acc g8, g9⟩
    · rintro idl j t t' hi hn ⟨g0, g1, A, B, g3, g4, g7, g8, g9⟩
      exact ⟨g0, hn.le g1 (none_of_le hs02 hi), A, B, hn.cells g3, hn.cells g4, hn.acc g7, hn.acc g8, g9⟩
    · exact ⟨Nat.zero_le _, hs02, r1, nilV, nilV, r3, r5, ⟨by rintro ⟨⟩, by rintro ⟨⟩, by rintro ⟨⟩⟩, ⟨by rintro ⟨⟩, by rintro ⟨⟩, by rintro ⟨⟩⟩, Acc.nil _ _ _, Acc.nil _ _ _, by rintro j ⟨⟩⟩
    · rintro t ⟨g0, g1, g2, A, B, g3, g4, g5, g6, g7, g8, g9⟩
      refine hK _ _ ⟨g1, A, B, g3, g4, ?_, ?_, g9⟩
      · rw [List.take_of_length_le (show D.names.length ≤ D.now.length by omega)] at g7
        rw [List.take_of_length_le (by omega)]
        exact g7
      · rw [List.take_of_length_le (show D.sizes.length ≤ D.now.length by omega)] at g8
        rw [List.take_of_length_le (by omega)]
        exact g8
    · rintro j t ⟨rfl, g⟩
      simp only [if_true]
      exact hK _ _ g
    · rintro i t idl R0 R1 K' hi hid ht ⟨g0, g1, g2, A, B, g3, g4, ⟨a1, a3, a5⟩, ⟨b1, b3, b5⟩, g7, g8, g9⟩ kn kr kx tk0 tk1
      have nid : ∀ {q : Nat} {cs : List HV}, t q = some (.cells cs) → q ≠ idl := fun hq e => by
        rw [e, ht] at hq; cases hq; exact tk0
      have hA : accId A ≠ some idl := fun e => by
        have := (g7.free e).2
        rw [ht] at this; cases this; exact tk0
      have hB : accId B ≠ some idl := fun e => by
        have := (g8.free e).2
        rw [ht] at this; cases this; exact tk0
      have n1 := nid g2
      have n3 := nid g3
      have n5 := nid g4
      have hsi : s0 idl = none := none_of_le hs02 hid
      refine ⟨ht, ?_⟩
      have e1 : (t.set idl R1) p1 = some (.cells [.lit (.int .i64 (m : Int))]) := by rw [set_ne _ _ n1]; exact g2
      have e3 : (t.set idl R1) p3 = some (.cells [A]) := by rw [set_ne _ _ n3]; exact g3
      have e5 : (t.set idl R1) p5 = some (.cells [B]) := by rw [set_ne _ _ n5]; exact g4
      have ei : (t.set idl R1) idl = some R1 := set_at _ _ _
      have hA2 := g7.put R1 hA
      have hB2 := g8.put R1 hB
      have hle2 : HS.le s0 (t.set idl R1) := le_set_free _ g1 hsi
      generalize t.set idl R1 = t2 at *
      have hti : (D.names.take i).length = i := by rw [List.length_take]; omega
      have htj : (D.sizes.take i).length = i := by rw [List.length_take]; omega
      have hnw := hw.nw
      have hkk := hw.k
      have e1' : vLoad t2 (.ptr p1 0) 1 false = some (.lit (.int .i64 (m : Int))) := ld_at e1 0
      have e3' : vLoad t2 (.ptr p3 0) 1 false = some A := ld_at e3 0
      have lenA : vLenT (Try.prog.underlying 41) t2 A = some (.lit (.int .i64 (i : Int))) := by
        have := hA2.len 9 t2
        rw [hti] at this
        exact this
      simp only [e3', e1', lenA, geq_n]
      by_cases hge : (m : Int) ≤ (i : Int)
      · obtain rfl : i = m := by omega
        simp only [hge, decide_true]
        exact kx 0 _ ei ⟨rfl, hle2, A, B, e3, e5, hA2, hB2, g9⟩
      · simp only [hge, decide_false]
        have hnm : D.names.take (i + 1) = D.names.take i ++ [(D.now.getD i nm0).1] := by
          rw [take_succ' [] D.names (by omega)]
          congr 2
          unfold DK.names
          rw [List.getD, List.getElem?_map, List.getElem?_eq_getElem hi, List.getD, List.getElem?_eq_getElem hi]
          rfl
        have hsm : D.sizes.take (i + 1) = D.sizes.take i ++ [D.len (D.now.getD i nm0)] := by
          rw [take_succ' 0 D.sizes (by omega)]
          congr 2
          unfold DK.sizes
          rw [List.getD, List.getElem?_map, List.getElem?_eq_getElem hi, List.getD, List.getElem?_eq_getElem hi]
          rfl
        simp only [encW, List.headD_cons, List.tail_cons]
        generalize D.now.getD i nm0 = x at *
        refine hA2.app1 hle2 (vs := strC x.1) rfl rfl rfl ⟨by omega, by omega⟩ ?_
        intro A' t' h1 h2 h3
        have o1 := h3 p1 _ a1 e1
        have o3 := h3 p3 _ a3 e3
        have o5 := h3 p5 _ a5 e5
        have oi := h3 idl _ hA ei
        have hB3 : Acc s0 t' 1 B (D.sizes.take i).length (rows intC (D.sizes.take i)) := hB2.keep fun q ob hq hob => (h3 q ob (fun e => g9 q e hq) hob).1
        have dA' : ∀ j, accId A' = some j → accId B ≠ some j := fun j hj hj2 => by
          obtain ⟨-, f2⟩ := hB2.free hj2
          exact (h3 j _ (fun e => g9 j e hj2) f2).2 hj
        refine store1 o3.1 (by simp) h1.hc h1.one rfl ?_
        have v1 : (t'.set p3 (.cells ([A].set 0 A'))) p1 = some (.cells [.lit (.int .i64 (m : Int))]) := by rw [set_ne _ _ n31.symm]; exact o1.1
        have v3 : (t'.set p3 (.cells ([A].set 0 A'))) p3 = some (.cells [A']) := set_at _ _ _
        have v5 : (t'.set p3 (.cells ([A].set 0 A'))) p5 = some (.cells [B]) := by rw [set_ne _ _ n53]; exact o5.1
        have vi : (t'.set p3 (.cells ([A].set 0 A'))) idl = some R1 := by rw [set_ne _ _ n3.symm]; exact oi.1
        have hA4 : Acc s0 (t'.set p3 (.cells ([A].set 0 A'))) 1 A' ((D.names.take i).length + 1) (rows strC (D.names.take i) ++ strC x.1) := h1.put _ o3.2
        have hB4 : Acc s0 (t'.set p3 (.cells ([A].set 0 A'))) 1 B (D.sizes.take i).length (rows intC (D.sizes.take i)) := hB3.put _ b3
        have hle4 : HS.le s0 (t'.set p3 (.cells ([A].set 0 A'))) := le_set_free _ h2 h03
        have c1 := o1.2
        have c3 := o3.2
        have c5 := o5.2
        have ci := oi.2
        clear o1 o3 o5 oi h1 h2 h3 hB3 e1 e3 e5 ei hA2 hB2 hle2 e1' e3' lenA
        generalize t'.set p3 (.cells ([A].set 0 A')) = t4 at *
        rw [show vLoad t4 (.ptr p5 0) 1 false = some B from ld_at v5 0]
        simp only
        refine hB4.app1 hle4 (vs := intC (D.len x)) rfl rfl rfl ⟨by omega, by omega⟩ ?_
        intro B' t5 k1 k2 k3
        have o1 := k3 p1 _ b1 v1
        have o3 := k3 p3 _ b3 v3
        have o5 := k3 p5 _ b5 v5
        have oi := k3 idl _ hB vi
        have hA5 : Acc s0 t5 1 A' ((D.names.take i).length + 1) (rows strC (D.names.take i) ++ strC x.1) := hA4.keep fun q ob hq hob => (k3 q ob (dA' q hq) hob).1
        have dB' : ∀ j, accId A' = some j → accId B' ≠ some j := fun j hj hj2 => by
          obtain ⟨-, f2⟩ := hA4.free hj
          exact (k3 j _ (dA' j hj) f2).2 hj2
        refine store1 o5.1 (by simp) k1.hc k1.one rfl ?_
        refine kn _ (by rw [set_ne _ _ n5.symm]; exact oi.1) ⟨by omega, le_set_free _ k2 h05, by rw [set_ne _ _ n51.symm]; exact o1.1, A', B', by rw [set_ne _ _ n53.symm]; exact o3.1, set_at _ _ _, ⟨c1, c3, c5⟩, ⟨o1.2, o3.2, o5.2⟩, ?_, ?_, dB'⟩
        · rw [hnm, rows_app, List.length_append, rows_one]
          exact hA5.put _ c5
        · rw [hsm, rows_app, List.length_append, rows_one]
          exact k1.put _ o5.2
end
end Go.Proofs.Ythfoanmokcepcaa.DS
end
section
namespace Go.Proofs.Ythfoanmokcepcaa.DS
open Go.Proofs.Ythfoanmokcepcaa.H Go.Proofs.Ythfoanmokcepcaa.AS Go.Proofs.Ythfoanmokcepcaa.X0
set_option linter.unusedVariables false
set_option linter.unusedSimpArgs false
set_option maxRecDepth 100000
theorem texts50 (la : List By) (s : HS) (hl : la.length ≤ 1000000000) : HC Try.prog 50 [namesV la, namesV la] s (fun v t => t = s ∧ v = .lit (.bool true)) := by
  refine HC50 ?_
  unfold c50
  simp only [namesV_len, bindO, neq3, decide_true, Bool.not_true, hcond]
  refine HLoop.ghost (σ := Nat) (fun i => [.lit (.int .i64 (i : Int))]) (fun i t => i ≤ la.length ∧ t = s) (fun i => la.length - i) 0 rfl ⟨Nat.zero_le _, rfl⟩ ?_
  rintro i t K ⟨h1, rfl⟩ hK
  simp only [List.headD_cons, lss_i]
  by_cases hi : i < la.length
  · simp only [hi, decide_true, namesV_at la hi, load_elt1, List.getElem?_cons_zero, neq_s, Bool.not_true, inc_i hi (by omega)]
    exact hK (i + 1) _ _ rfl ⟨hi, rfl⟩ (by show la.length - (i + 1) < la.length - i; omega)
  · simp only [hi, decide_false]
    exact ⟨by trivial, by trivial⟩
theorem sizesV_len (l : List Int) (u : HS) : vLenT (Try.prog.underlying 24) u (sizesV l) = some (.lit (.int .i64 ((l.length : Nat) : Int))) := by
  unfold sizesV accV
  by_cases e : l.length = 0
  · rw [if_pos e, e]; rfl
  · rw [if_neg e]; rfl
theorem sizesV_at (l : List Int) {i : Nat} (hi : i < l.length) : vIdx 1 (sizesV l) (.lit (.int .i64 (i : Int))) = some (.elt [.lit (.int .i64 (l.getD i 0))] 0) := by
  unfold sizesV accV
  rw [if_neg (by omega)]
  exact idx_rowL (enc := intC) (fun _ => rfl) 0 l .i64 hi
section
variable {s h : HS} {d r K : Nat} {D : DK}
theorem shows30 (hP : PS h d D) (hl : HS.le h s) (hr : s r = some (.cells (rC D))) (hw : Wf K D) (hn : D.now.length ≤ 1000) : HC Try.prog 30 [.ptr d 0, .ptr r 0] s (fun v t => v = .lit (.bool true) ∧ HS.le s t) := by
  refine HC30 ?_
  unfold c30
  have hnl : D.names.length = D.now.length := List.length_map ..
  have hsl : D.sizes.length = D.now.length := List.length_map ..
  refine Join.of (fun xs t => t = s ∧ xs = [.lit (.bool false)]) ?_ ?_
  rotate_left
  · intro K1 hK1
    simp only [eqp27, bindO, hcond]
    rw [show vCmp (Try.prog.underlying 51) .eql (.ptr r 0) (.lit (.pointer none)) = some (.lit (.bool false)) from rfl]
    exact hK1 _ _ ⟨rfl, rfl⟩
  rintro _ t ⟨rfl, rfl⟩
  simp only [List.headD_cons, hcond]
  refine (walk32 hP hl hw 1000 (by omega)).mono ?_
  rintro _ t1 ⟨rfl, rfl⟩
  rw [List.take_of_length_le (show D.names.length ≤ 1000 by omega), List.take_of_length_le (show D.sizes.length ≤ 1000 by omega)]
  simp only [vExtract, List.getElem?_cons_succ, List.getElem?_cons_zero, bindO]
  refine (names20 hP hl hw).mono ?_
  rintro _ t2 ⟨rfl, hle2⟩
  refine Join.of (fun xs u => HS.le t1 u ∧ xs = [.lit (.bool false)]) ?_ ?_
  rotate_left
  · intro K12 hK12
    have hr2 := hle2 _ _ hr
    have hl2 := HS.le.trans hl hle2
    have l2 : vLoad t2 (.ptr r 2) 1 false = some (rowL nmC 2 D.now) := ld_at hr2 2
    simp only [namesV_len, hvNil, hvFld, l2, hnl, hsl]
    rw [show vLenT (Try.prog.underlying 65) t2 (rowL nmC 2 D.now) = some (.lit (.int .i64 ((D.now.length : Nat) : Int))) from rfl]
    simp only [neq3, decide_true, Bool.not_true, sizesV_len, hsl]
    refine (texts50 D.names t2 (by omega)).mono ?_
    rintro _ t3 ⟨rfl, rfl⟩
    simp only [vUn, Bool.not_true]
    obtain ⟨_, _, _, _, _, _, hPD⟩ := id hP
    refine (used21 hPD hl2 hw).mono ?_
    rintro _ t4 ⟨rfl, hle4⟩
    have hr4 := hle4 _ _ hr2
    refine (used51 hr4 hw).mono ?_
    rintro _ t5 ⟨rfl, rfl⟩
    have l7 : vLoad t5 (.ptr r 7) 1 false = some (.lit (.int .i64 D.ops)) := ld_at hr4 7
    simp only [neq3, decide_true, Bool.not_true, l7]
    refine (ops22 hP (HS.le.trans hl2 hle4)).mono ?_
    rintro _ t6 ⟨rfl, rfl⟩
    refine ⟨l7, ?_⟩
    simp only [neq3, decide_true, Bool.not_true]
    exact hK12 _ _ ⟨HS.le.trans hle2 hle4, rfl⟩
  rintro _ u ⟨hle3, rfl⟩
  simp only [List.headD_cons]
  have hr3 := hle3 _ _ hr
  have hl3 := HS.le.trans hl hle3
  have i1 := fun i (hi : i < D.now.length) => idx_rowL nmC_len nm0 D.now .i64 hi
  refine HLoop.ghost (σ := Nat) (fun i => [.lit (.int .i64 (i : Int))]) (fun i t => i ≤ D.now.length ∧ t = u) (fun i => D.now.length - i) 0 rfl ⟨Nat.zero_le _, rfl⟩ ?_
  rintro i t K ⟨h1, rfl⟩ hK
  simp only [List.headD_cons, namesV_len, hnl, lss_i]
  by_cases hi : i < D.now.length
  · have hni : D.names.getD i [] = (D.now.getD i nm0).1 := by
      unfold DK.names
      rw [List.getD, List.getElem?_map, List.getElem?_eq_getElem hi, List.getD, List.getElem?_eq_getElem hi]
      rfl
    have hsi : D.sizes.getD i 0 = D.len (D.now.getD i nm0) := by
      unfold DK.sizes
      rw [List.getD, List.getElem?_map, List.getElem?_eq_getElem hi, List.getD, List.getElem?_eq_getElem hi]
      rfl
    have hlk := look_self hw.sn hi
    have l2 : vLoad t (.ptr r 2) 1 false = some (rowL nmC 2 D.now) := ld_at hr3 2
    have hrd : D.read (D.now.getD i nm0).1 = ((D.files.getD (D.now.getD i nm0).2 fl0).b, 0) := by
      unfold DK.read
      rw [hlk]
    have i1i := i1 i hi
    have na := namesV_at D.names (show i < D.names.length by omega)
    have sa := sizesV_at D.sizes (show i < D.sizes.length by omega)
    rw [hni] at na
    rw [hsi] at sa
    unfold DK.len at sa
    generalize D.now.getD i nm0 = x at *
    simp only [hi, decide_true, na, load_elt1, List.getElem?_cons_zero]
    refine (read17 hP hl3 hw x.1).mono ?_
    rintro _ t2 ⟨y, rfl, hy, rfl⟩
    simp only [vExtract, List.getElem?_cons_succ, List.getElem?_cons_zero, na, load_elt1]
    refine (read31 hr3 hw x.1).mono ?_
    rintro _ t3 ⟨⟨z, rfl, hz⟩, rfl⟩
    rw [hrd] at hy hz ⊢
    have hlz : ∀ u, vLenT (Try.prog.underlying 22) u z = some (.lit (.int .i64 (((D.files.getD x.2 fl0).b.length : Nat) : Int))) := fun u => hz.len 5 u
    simp only [vExtract, List.getElem?_cons_succ, List.getElem?_cons_zero]
    refine Join.of (fun xs u => u = t3 ∧ xs = [.lit (.bool false)]) ?_ ?_
    rotate_left
    · intro K55 hK55
      simp only [na, load_elt1, hvNil, hvFld, l2, i1i, fldE, nmC, List.getElem?_cons_succ, List.getElem?_cons_zero, neq_s, decide_true, Bool.not_true, sa, hlz, neq3, toStr_rv hy, toStr_rv hz]
      refine (size19 hP hl3 hw x.1).mono ?_
      rintro _ t4 ⟨rfl, rfl⟩
      rw [hlk]
      refine ⟨by trivial, ?_⟩
      simp only [neq3, decide_true, Bool.not_true]
      exact hK55 _ _ ⟨rfl, rfl⟩
    rintro _ u ⟨rfl, rfl⟩
    simp only [List.headD_cons, inc_i hi (show D.now.length ≤ 9223372036854775807 by omega)]
    exact hK (i + 1) _ _ rfl ⟨hi, rfl⟩ (by show D.now.length - (i + 1) < D.now.length - i; omega)
  · simp only [hi, decide_false]
    exact ⟨by trivial, hle3⟩
end
/-- How many names there are. -/
structure Nb (c : Nat) (D : DK) : Prop where
  nw : D.now.length ≤ c
  sl : D.safe.length ≤ c
  al : D.acts.length ≤ c
section
variable {c : Nat} {D : DK}
theorem Nb.mono {c' : Nat} (h : Nb c D) (hc : c ≤ c') : Nb c' D := ⟨by have := h.nw; omega, by have := h.sl; omega, by have := h.al; omega⟩
theorem Nb.ask (h : Nb c D) : Nb c D.ask := by
  obtain ⟨e1, e2, e3, e4, e5, e6⟩ := ask_same D
  exact ⟨by rw [e1]; exact h.nw, by rw [e2]; exact h.sl, by rw [e3]; exact h.al⟩
theorem Nb.name (h : Nb c D) (a : AC) : Nb (c + 1) (D.name a) := by
  have h4 := len_applyA D.now a
  have h5 := h.nw
  have h6 := h.al
  refine ⟨by show (applyA D.now a).length ≤ _; omega, by have := h.sl; show D.safe.length ≤ _; omega, ?_⟩
  show (D.acts ++ [a]).length ≤ _
  rw [List.length_append, List.length_singleton]
  omega
theorem Nb.setF (h : Nb c D) (i : Nat) (f : Fl) : Nb c (D.setF i f) := ⟨h.nw, h.sl, h.al⟩
theorem Nb.step (h : Nb c D) (x : ST) : Nb (c + 1) (D.step x).1 := by
  obtain ⟨e1, e2, e3, e4, e5, e6⟩ := ask_same D
  have h0 := h.mono (show c ≤ c + 1 by omega)
  have ha := h0.ask
  unfold DK.step
  split
  · unfold DK.append
    split
    · exact ha
    split
    · exact ha
    split
    · exact ha.setF _ _
    · have h1 : Nb c { D.ask with files := D.files ++ [fl0] } := ⟨h.ask.nw, h.ask.sl, h.ask.al⟩
      exact (h1.name _).setF _ _
  split
  · unfold DK.truncate
    split
    · exact ha
    split
    · exact ha
    · split
      · exact ha
      · exact ha.setF _ _
  split
  · unfold DK.sync
    split
    · exact ha
    split
    · exact ha
    · exact ha.setF _ _
  split
  · unfold DK.rename
    split
    · exact ha
    split
    · exact ha
    · split
      · exact ha
      · exact h.ask.name _
  split
  · unfold DK.remove
    split
    · exact ha
    split
    · exact ha
    · exact h.ask.name _
  split
  · unfold DK.syncDir
    split
    · exact ha
    · exact ⟨ha.nw, h0.nw, Nat.zero_le _⟩
  split
  · exact ⟨h0.nw, h0.sl, h0.al⟩
  · exact h0
theorem Nb.crash (h : Nb c D) (picks : List Int) : Nb (2 * c) (D.crash picks) := by
  have key : ∀ l : List Nm, l.length ≤ 2 * c → ∀ fs, Nb (2 * c) ⟨D.room, fs, numbered l 0, numbered l 0, [], false, 0, false, 0⟩ := fun l hl fs => ⟨by show (numbered l 0).length ≤ _; rw [numbered_len]; exact hl, by show (numbered l 0).length ≤ _; rw [numbered_len]; exact hl, Nat.zero_le _⟩
  unfold DK.crash
  refine key _ ?_ _
  have h1 := len_foldl (D.acts.take (part picks D.acts.length).toNat) D.safe
  have h2 : (D.acts.take (part picks D.acts.length).toNat).length ≤ D.acts.length := by rw [List.length_take]; omega
  have h3 := h.sl
  have h4 := h.al
  omega
theorem nb_new (room : Int) : Nb 0 (DK.new room) := ⟨Nat.le_refl _, Nat.le_refl _, Nat.le_refl _⟩
end
end Go.Proofs.Ythfoanmokcepcaa.DS
end
section
namespace Go.Proofs.Ythfoanmokcepcaa.DS
end Go.Proofs.Ythfoanmokcepcaa.DS
end
section
namespace Go.Proofs.Ythfoanmokcepcaa.DS
open Go.Proofs.Ythfoanmokcepcaa.H Go.Proofs.Ythfoanmokcepcaa.AS Go.Proofs.Ythfoanmokcepcaa.X0
set_option linter.unusedVariables false
set_option linter.unusedSimpArgs false
set_option maxRecDepth 100000
theorem round54 (picks : List Int) (k : Nat) {n : Int} (hn : 1 ≤ n ∧ n ≤ 1000000000) (s : HS) : HC Try.prog 54 [rowL intC 1 picks, .lit (.int .i64 (k : Int)), .lit (.int .i64 n)] s (fun v t => v = .lit (.int .i64 (part (picks.drop k) (n - 1))) ∧ t = s) := by
  refine HC54 ?_
  unfold c54
  rw [show vLenT (Try.prog.underlying 24) s (rowL intC 1 picks) = some (.lit (.int .i64 ((picks.length : Nat) : Int))) from rfl]
  simp only [bindO, geq_n]
  by_cases hk : k < picks.length
  · have hk' : ¬ (picks.length : Int) ≤ (k : Int) := by omega
    have i1 := idx_rowL (enc := intC) (fun _ => rfl) 0 picks .i64 hk
    have hd : picks.drop k = picks.getD k 0 :: picks.drop (k + 1) := by
      rw [getD_get 0 picks hk, List.getElem_cons_drop]
    rw [hd]
    show hcond _ _ _
    simp only [hk', decide_false, hcond, i1]
    generalize picks.getD k 0 = x at *
    rw [show vLoad s (.elt (intC x) 0) 1 false = some (.lit (.int .i64 x)) from rfl]
    have h0 : ¬ n = 0 := by omega
    have h1 := Int.emod_nonneg x (b := n) (by omega)
    have h2 := Int.emod_lt_of_pos x (b := n) (by omega)
    have h3 := Int.tmod_eq_emod (a := x) (b := n)
    have h4 : x.tmod n = x % n ∨ x.tmod n = x % n - n := by
      rw [h3]
      split
      · left; omega
      · right; omega
    have hp : part (x :: picks.drop (k + 1)) (n - 1) = x % n := by
      show x % (n - 1 + 1) = _
      rw [Int.sub_add_cancel]
    rw [hp]
    simp only
    rw [show vBin .rem (.lit (.int .i64 x)) (.lit (.int .i64 n)) = some (.lit (.int .i64 (x.tmod n))) from by simp only [vBin, if_true, if_neg h0]]
    simp only
    refine Join.of (fun xs t => t = s ∧ xs = [.lit (.int .i64 (x % n))]) ?_ ?_
    · rintro _ t ⟨rfl, rfl⟩
      exact ⟨by rfl, rfl⟩
    · intro K hK
      simp only [lss_n]
      by_cases hc : x.tmod n < 0
      · simp only [hc, decide_true]
        rw [add_n (by omega) (by omega)]
        refine hK _ _ ⟨rfl, ?_⟩
        congr 3
        omega
      · simp only [hc, decide_false]
        refine hK _ _ ⟨rfl, ?_⟩
        congr 3
        omega
  · have hk' : (picks.length : Int) ≤ (k : Int) := by omega
    simp only [hk', decide_true, hcond]
    rw [List.drop_of_length_le (by omega)]
    exact ⟨by rfl, by trivial⟩
/-- Files whose bytes are rows of their own. -/
def ownC (x : HV × Fl) : List HV := [x.1, .lit (.int .i64 x.2.safe)]
theorem frzBs {xs : List HV} (hx : ∀ q cs, xs.map (frz2 q cs) = xs) {s1 : HS} {q : Nat} : ∀ (Bs : List (HV × Fl)) (pre : List HV) (t : HS), t q = some (.cells (pre ++ rows ownC Bs)) → (∀ q' cs', pre.map (frz0 q' cs') = pre) → Ones pre →
    (∀ x ∈ Bs, (x.1 = nilV ∧ x.2.b = []) ∨ ∃ p f, x.1 = .view p 0 1 x.2.b.length f ∧ t p = some (.cells (bl x.2.b)) ∧ p ≠ q ∧ s1 p = none) → Bs.Pairwise (fun x y => ∀ p, accId x.1 = some p → accId y.1 ≠ some p) →
    (∀ k ob, k ≠ q → s1 k = some ob → t k = some ob) → UpL xs t xs (s1.set q (.cells (pre ++ rows filC (Bs.map (·.2)))))
  | [], pre, t, h1, h2, h3, h4, h5, h6 => UpL.le _ fun k ob hk => by
    by_cases e : k = q
    · subst e; rw [set_at] at hk; rw [h1]; exact hk
    · rw [set_ne _ _ e] at hk; exact h6 k ob e hk
  | (B, f) :: Bs, pre, t, h1, h2, h3, h4, h5, h6 => by
    obtain ⟨p1, p2⟩ := List.pairwise_cons.1 h5
    have ho : ∀ x ∈ Bs, hone x.1 = true := fun x hx => by
      rcases h4 x (List.mem_cons_of_mem _ hx) with ⟨e, -⟩ | ⟨p, f, e, -⟩ <;> rw [e] <;> rfl
    have hor : Ones (rows ownC Bs) := fun y hy => by
      obtain ⟨x, hx, hy⟩ := List.mem_flatMap.1 hy
      simp only [ownC, List.mem_cons, List.not_mem_nil, or_false] at hy
      rcases hy with rfl | rfl
      · exact ho x hx
      · rfl
    have e0 : pre ++ rows ownC ((B, f) :: Bs) = pre ++ [B, .lit (.int .i64 f.safe)] ++ rows ownC Bs := by rw [rows_cons, ← List.append_assoc]; rfl
    have e9 : pre ++ rows filC (((B, f) :: Bs).map (·.2)) = (pre ++ filC f) ++ rows filC (Bs.map (·.2)) := by rw [List.map_cons, rows_cons, List.append_assoc]
    have hpre : ∀ q' cs', (pre ++ filC f).map (frz0 q' cs') = pre ++ filC f := fun q' cs' => by rw [List.map_append, h2]; rfl
    have hop : Ones (pre ++ filC f) := fun y hy => by
      rcases List.mem_append.1 hy with hy | hy
      · exact h3 y hy
      · exact filC_ones f y hy
    rw [e9]
    rcases h4 (B, f) List.mem_cons_self with ⟨g1, g2⟩ | ⟨p, ff, g1, g2, g3, g4⟩
    · simp only at g1 g2
      subst g1
      have hfl : filC f = [.list 1 0 [] false, .lit (.int .i64 f.safe)] := by unfold filC byV; rw [g2]; rfl
      have hcr : ∀ m l w, ObjAt m (.cells (pre ++ rows ownC ((nilV, f) :: Bs))) l w → ObjAt m (.cells (pre ++ filC f ++ rows ownC Bs)) l w := fun m l w => cells_re (cs := pre ++ rows ownC ((nilV, f) :: Bs)) (cs' := pre ++ filC f ++ rows ownC Bs) (by rw [e0, hfl]; simp) (fun y hy => by
          rcases List.mem_append.1 hy with hy | hy
          · exact hop y hy
          · exact hor y hy) (by
          intro j x' hj
          rw [e0]
          rw [hfl] at hj
          rw [List.append_assoc] at hj ⊢
          rcases Nat.lt_trichotomy j pre.length with h | h | h
          · rw [List.getElem?_append_left h] at hj ⊢
            exact ⟨x', hj, fun m v h => h⟩
          · subst h
            rw [List.getElem?_append_right (Nat.le_refl _), Nat.sub_self] at hj ⊢
            cases hj
            exact ⟨nilV, rfl, fun m v h => rep_nil 1 h⟩
          · rw [List.getElem?_append_right (by omega)] at hj ⊢
            obtain ⟨i, hi⟩ : ∃ i, j - pre.length = i + 1 := ⟨j - pre.length - 1, by omega⟩
            rw [hi] at hj ⊢
            exact ⟨x', hj, fun m v h => h⟩) m l w
      refine (UpL.re xs h1 hcr).trans ?_
      refine frzBs hx Bs (pre ++ filC f) _ (set_at _ _ _) hpre hop (fun x hx => ?_) p2 (fun k ob hk hs => by rw [set_ne _ _ hk]; exact h6 k ob hk hs)
      rcases h4 x (List.mem_cons_of_mem _ hx) with h | ⟨p, f', k1, k2, k3, k4⟩
      · exact .inl h
      · exact .inr ⟨p, f', k1, by rw [set_ne _ _ k3]; exact k2, k3, k4⟩
    · simp only at g1
      subst g1
      have hu := UpL.frzG (xs := xs) (s' := (t.del p).set q (.cells ((pre ++ rows ownC ((.view p 0 1 f.b.length ff, f) :: Bs)).map (frz0 p (bl f.b))))) g2 fun k o hk => by
        by_cases e : k = q
        · subst e
          rw [set_at] at hk
          cases hk
          exact ⟨fun e => g3 e.symm, _, h1, .inr rfl⟩
        · rw [set_ne _ _ e] at hk
          simp only [HS.del] at hk
          split at hk
          · cases hk
          · exact ⟨by assumption, o, hk, .inl rfl⟩
      rw [hx] at hu
      have hrest : (rows ownC Bs).map (frz0 p (bl f.b)) = rows ownC Bs := by
        have : ∀ y ∈ rows ownC Bs, frz0 p (bl f.b) y = y := fun y hy => by
          obtain ⟨x, hx, hy⟩ := List.mem_flatMap.1 hy
          simp only [ownC, List.mem_cons, List.not_mem_nil, or_false] at hy
          rcases hy with rfl | rfl
          · have hne := p1 x hx p rfl
            rcases h4 x (List.mem_cons_of_mem _ hx) with ⟨e, -⟩ | ⟨p', f', e, -⟩
            · rw [e]; rfl
            · rw [e] at hne ⊢
              have : p' ≠ p := fun e' => hne (by rw [e']; rfl)
              simp [frz0, phi, this]
          · rfl
        rw [List.map_congr_left this, List.map_id']
      have hvw : frz0 p (bl f.b) (.view p 0 1 f.b.length ff) = byV f.b := by
        have : (bl f.b).take f.b.length = bl f.b := List.take_of_length_le (by rw [bl_len]; exact Nat.le_refl _)
        simp [frz0, phi, bl_len, this, byV]
      have e : (pre ++ rows ownC ((.view p 0 1 f.b.length ff, f) :: Bs)).map (frz0 p (bl f.b)) = pre ++ filC f ++ rows ownC Bs := by
        rw [rows_cons, List.map_append, List.map_append, h2, hrest, List.append_assoc]
        congr 2
        show [frz0 p (bl f.b) (.view p 0 1 f.b.length ff), _] = _
        rw [hvw]
        rfl
      rw [e] at hu
      refine hu.trans ?_
      refine frzBs hx Bs (pre ++ filC f) _ (set_at _ _ _) hpre hop (fun x hx => ?_) p2 (fun k ob hk hs => ?_)
      · have hne := p1 x hx p rfl
        rcases h4 x (List.mem_cons_of_mem _ hx) with h | ⟨p', f', k1, k2, k3, k4⟩
        · exact .inl h
        · refine .inr ⟨p', f', k1, ?_, k3, k4⟩
          rw [set_ne _ _ k3]
          have : p' ≠ p := fun e' => hne (by rw [k1, e']; rfl)
          simp only [HS.del, if_neg this]
          exact k2
      · rw [set_ne _ _ hk]
        have : k ≠ p := fun e' => by rw [e', g4] at hs; cases hs
        simp only [HS.del, if_neg this]
        exact h6 k ob hk hs
end Go.Proofs.Ythfoanmokcepcaa.DS
end
section
namespace Go.Proofs.Ythfoanmokcepcaa.DS
open Go.Proofs.Ythfoanmokcepcaa.H Go.Proofs.Ythfoanmokcepcaa.AS Go.Proofs.Ythfoanmokcepcaa.X0
set_option linter.unusedVariables false
set_option linter.unusedSimpArgs false
set_option maxRecDepth 100000
def cC (room : Int) (A N S : HV) : List HV := [.lit (.int .i64 room), A, N, S, nilV, .lit (.int .i64 (-1)), .lit (.bool false), .lit (.int .i64 0)]
/-- Bytes in a block of their own. -/
def BV (s t : HS) (c : Nat) (A N : HV) (x : HV × Fl) : Prop := (x.1 = nilV ∧ x.2.b = []) ∨ ∃ p f, x.1 = .view p 0 1 x.2.b.length f ∧ s p = none ∧ t p = some (.cells (bl x.2.b)) ∧ p ≠ c ∧ accId A ≠ some p ∧ accId N ≠ some p
/-- All that a crash's disk consists of lies still. -/
theorem crashUp {s t : HS} {c : Nat} {A N : HV} {room : Int} {Bs : List (HV × Fl)} {ns : List Nm} {fs : List Fl} (hcs : s c = none) (ht : t c = some (.cells (cC room A N N))) (hle : HS.le s t) (hA : Acc s t 2 A Bs.length (rows ownC Bs)) (hN : Acc s t 2 N ns.length (rows nmC ns)) (hln : Bs.length = ns.length)
    (hAc : accId A ≠ some c) (hNc : accId N ≠ some c) (hAN : ∀ j, accId A = some j → accId N ≠ some j) (hB : ∀ x ∈ Bs, BV s t c A N x) (hp : Bs.Pairwise (fun x y => ∀ p, accId x.1 = some p → accId y.1 ≠ some p)) (hfs : fs = Bs.map (·.2)) :
    UpL [.ptr c 0] t [.ptr c 0] (s.set c (.cells (rC ⟨room, fs, ns, ns, [], false, 0, false, 0⟩))) := by
  have hx : ∀ q cs, ([.ptr c 0] : List HV).map (frz2 q cs) = [.ptr c 0] := fun q cs => rfl
  subst hfs
  have hll : (Bs.map (·.2)).length = Bs.length := List.length_map ..
  rcases hA with ⟨rfl, e1, e2⟩ | ⟨qa, fa, a1, rfl, a3, a4, a5⟩
  · -- no files
    have hb : Bs = [] := List.length_eq_zero_iff.1 e2
    subst hb
    have hns : ns = [] := List.length_eq_zero_iff.1 (by rw [← hln]; rfl)
    subst hns
    have hN0 : N = nilV := by
      rcases hN with ⟨rfl, -⟩ | ⟨q, f, -, -, -, -, e⟩
      · rfl
      · exact absurd rfl e
    subst hN0
    have hcr : ∀ m l w, ObjAt m (.cells (cC room nilV nilV nilV)) l w → ObjAt m (.cells (rC ⟨room, [], [], [], [], false, 0, false, 0⟩)) l w := fun m l w => cells_re (cs := cC room nilV nilV nilV) (cs' := rC ⟨room, [], [], [], [], false, 0, false, 0⟩) rfl (by
        intro x hx
        simp only [rC, List.mem_cons, List.not_mem_nil, or_false] at hx
        rcases hx with rfl | rfl | rfl | rfl | rfl | rfl | rfl | rfl <;> rfl) (by
        intro j x' hj
        rcases j with _ | _ | _ | _ | _ | _ | _ | _ | j
        · exact ⟨_, rfl, fun m v h => by cases hj; exact h⟩
        · exact ⟨nilV, rfl, fun m v h => by cases hj; exact rep_nil 2 h⟩
        · exact ⟨nilV, rfl, fun m v h => by cases hj; exact rep_nil 2 h⟩
        · exact ⟨nilV, rfl, fun m v h => by cases hj; exact rep_nil 2 h⟩
        · exact ⟨nilV, rfl, fun m v h => by cases hj; exact rep_nil 4 h⟩
        · exact ⟨_, rfl, fun m v h => by cases hj; exact h⟩
        · exact ⟨_, rfl, fun m v h => by cases hj; exact h⟩
        · exact ⟨_, rfl, fun m v h => by cases hj; exact h⟩
        · cases hj) m l w
    refine (UpL.re _ ht hcr).trans (UpL.le _ fun k ob hk => ?_)
    by_cases e : k = c
    · subst e; rw [set_at] at hk ⊢; exact hk
    · rw [set_ne _ _ e] at hk ⊢; exact hle k ob hk
  obtain ⟨qn, fn, n1, rfl, n3, n4, n5⟩ : ∃ qn fn, s qn = none ∧ N = .view qn 0 2 ns.length fn ∧ t qn = some (.cells (rows nmC ns)) ∧ (rows nmC ns).length = ns.length * 2 ∧ ns.length ≠ 0 := by
    rcases hN with ⟨-, -, e⟩ | h
    · omega
    · exact h
  have hqn : qn ≠ qa := fun e => hAN qa rfl (by rw [e]; rfl)
  have hqac : qa ≠ c := fun e => hAc (by rw [e]; rfl)
  have hqnc : qn ≠ c := fun e => hNc (by rw [e]; rfl)
  -- the bytes
  have u1 := frzBs hx (s1 := ((s.set c (.cells (cC room (.view qa 0 2 Bs.length fa) (.view qn 0 2 ns.length fn) (.view qn 0 2 ns.length fn)))).set qn (.cells (rows nmC ns)))) (q := qa) Bs [] t (by rw [List.nil_append]; exact a3) (fun _ _ => rfl) (fun x hx => by cases hx) (fun x hx => by
    rcases hB x hx with h | ⟨p, f, k1, k2, k3, k4, k5, k6⟩
    · exact .inl h
    · have h1 : p ≠ qn := fun e => k6 (by rw [e]; rfl)
      exact .inr ⟨p, f, k1, k3, fun e => k5 (by rw [e]; rfl), by rw [set_ne _ _ h1, set_ne _ _ k4]; exact k2⟩) hp (fun k ob hk hs => by
    by_cases e : k = qn
    · subst e; rw [set_at] at hs; rw [n3]; exact hs
    · rw [set_ne _ _ e] at hs
      by_cases e' : k = c
      · subst e'; rw [set_at] at hs; rw [ht]; exact hs
      · rw [set_ne _ _ e'] at hs; exact hle k ob hs)
  rw [List.nil_append] at u1
  refine u1.trans ?_
  have hfl : (rows filC (Bs.map (·.2))).length = Bs.length * 2 := by rw [rows_len filC_len, hll]
  have ft : (rows filC (Bs.map (·.2))).take (Bs.length * 2) = rows filC (Bs.map (·.2)) := List.take_of_length_le (by omega)
  have nt : (rows nmC ns).take (ns.length * 2) = rows nmC ns := List.take_of_length_le (by omega)
  -- the files
  have u2 := UpL.frzG (xs := [.ptr c 0]) (s := ((s.set c (.cells (cC room (.view qa 0 2 Bs.length fa) (.view qn 0 2 ns.length fn) (.view qn 0 2 ns.length fn)))).set qn (.cells (rows nmC ns))).set qa (.cells (rows filC (Bs.map (·.2))))) (s' := (s.set c (.cells (cC room (rowL filC 2 (Bs.map (·.2))) (.view qn 0 2 ns.length fn) (.view qn 0 2 ns.length fn)))).set qn (.cells (rows nmC ns))) (id := qa) (cs := rows filC (Bs.map (·.2))) (set_at _ _ _) fun k o hk => by
    by_cases e : k = qn
    · subst e
      rw [set_at] at hk
      refine ⟨hqn, o, by rw [set_ne _ _ hqn, set_at]; exact hk, .inl rfl⟩
    · rw [set_ne _ _ e] at hk
      by_cases e' : k = c
      · subst e'
        rw [set_at] at hk
        cases hk
        refine ⟨fun e => hqac e.symm, _, by rw [set_ne _ _ hqac.symm, set_ne _ _ e, set_at], .inr ?_⟩
        show _ = HObj.cells _
        congr 1
        have h1 : frz0 qa (rows filC (Bs.map (·.2))) (.view qa 0 2 Bs.length fa) = rowL filC 2 (Bs.map (·.2)) := by
          simp [frz0, phi, hfl, ft, rowL, hll]
        have h2 : frz0 qa (rows filC (Bs.map (·.2))) (.view qn 0 2 ns.length fn) = .view qn 0 2 ns.length fn := by
          simp [frz0, phi, hqn]
        unfold cC
        simp only [List.map_cons, List.map_nil, h1, h2]
        rfl
      · rw [set_ne _ _ e'] at hk
        have hka : k ≠ qa := fun e'' => by rw [e'', a1] at hk; cases hk
        exact ⟨hka, o, by rw [set_ne _ _ hka, set_ne _ _ e, set_ne _ _ e']; exact hk, .inl rfl⟩
  refine u2.trans ?_
  -- the names
  have u3 := UpL.frzG (xs := [.ptr c 0]) (s := (s.set c (.cells (cC room (rowL filC 2 (Bs.map (·.2))) (.view qn 0 2 ns.length fn) (.view qn 0 2 ns.length fn)))).set qn (.cells (rows nmC ns))) (s' := s.set c (.cells (cC room (rowL filC 2 (Bs.map (·.2))) (rowL nmC 2 ns) (rowL nmC 2 ns)))) (id := qn) (cs := rows nmC ns) (set_at _ _ _) fun k o hk => by
    by_cases e' : k = c
    · subst e'
      rw [set_at] at hk
      cases hk
      refine ⟨fun e => hqnc e.symm, _, by rw [set_ne _ _ hqnc.symm, set_at], .inr ?_⟩
      show _ = HObj.cells _
      congr 1
      have h2 : frz0 qn (rows nmC ns) (.view qn 0 2 ns.length fn) = rowL nmC 2 ns := by
        simp [frz0, phi, n4, nt, rowL]
      unfold cC
      simp only [List.map_cons, List.map_nil, h2]
      rfl
    · rw [set_ne _ _ e'] at hk
      have hka : k ≠ qn := fun e'' => by rw [e'', n1] at hk; cases hk
      exact ⟨hka, o, by rw [set_ne _ _ hka, set_ne _ _ e']; exact hk, .inl rfl⟩
  refine u3.trans ?_
  -- the acts
  have u4 := canR (t := s.set c (.cells ([.lit (.int .i64 room), rowL filC 2 (Bs.map (·.2)), rowL nmC 2 ns, rowL nmC 2 ns] ++ nilV :: [.lit (.int .i64 (-1)), .lit (.bool false), .lit (.int .i64 0)]))) (s := s) (r := c) (pre := [.lit (.int .i64 room), rowL filC 2 (Bs.map (·.2)), rowL nmC 2 ns, rowL nmC 2 ns]) (A := nilV) (sz := 4) (n := 0) (cs := []) (set_at _ _ _) (by
    intro x hx
    simp only [List.cons_append, List.nil_append, List.mem_cons, List.not_mem_nil, or_false] at hx
    rcases hx with rfl | rfl | rfl | rfl | rfl | rfl | rfl <;> rfl) (.inl ⟨rfl, rfl, rfl⟩) (fun k ob hk hs => by rw [set_ne _ _ hk]; exact hs) (fun q cs => ⟨rfl, rfl⟩) [.ptr c 0] (fun q cs => rfl)
  exact u4
end Go.Proofs.Ythfoanmokcepcaa.DS
end
