/- What the proof of the law GroupPlays needs, cut out of the session's own texts by a program (slim.py): part 7. -/
import Derived.Test.YtkcgokkgefgcjaaGreatDoorQGroupPlaysf
section
namespace Go.Proofs.YtkcgokkgefgcjaaGreatDoor.AS
open Go.Proofs.YtkcgokkgefgcjaaGreatDoor.H Go.Proofs.YtkcgokkgefgcjaaGreatDoor.G0
set_option linter.unusedVariables false
set_option linter.unusedSimpArgs false
set_option maxRecDepth 100000
namespace GG
def syncR2 (g : GG) : GG := if g.l.all (·.synced) = true ∧ g.state = 3 then { g with state := 4 } else g
noncomputable def syncR (g : GG) (id : By) (gen n : Int) : GG × List Slot × Int :=
  match (g.timeR n).at_ id with
  | none => (g.timeR n, [], 13)
  | some i => if gen = (g.timeR n).gen then
      (if (g.timeR n).state = 2 then ((g.timeR n).setM i (fun m => { m with heard := (g.timeR n).now }), [], 14)
       else ((((g.timeR n).setM i (fun m => { m with heard := (g.timeR n).now })).setM i (fun m => { m with synced := true })).syncR2, ofD (g.timeR n).shares id, 0))
    else (g.timeR n, [], 12)
end GG
section
variable {s : HS} {r : Nat} {R : GG} {Lv Av : HV} {o : Option DD} {K : Nat}
theorem sync18 (h : RSt s r R Lv Av o) (hb : Bd K R) (hk : K + 1 ≤ 1000000) (id : By) (gen : Int) {n : Int} (hn : n ≤ 1125899906842624) : HC Tryz.prog 18 [.ptr r 0, strV id, .lit (.int .i64 gen), .lit (.int .i64 n)] s (fun v t => (∃ Lv' o', RSt t r (R.syncR id gen n).1 Lv' Av o' ∧ Kept s t r Lv Lv') ∧ v = .tup [slV (R.syncR id gen n).2.1, .lit (.int .i64 (R.syncR id gen n).2.2)]) := by
  refine HC18 ?_
  unfold c18
  refine (time46 h hb hk hn).mono ?_
  rintro _ t ⟨L1, o1, h1, k1⟩
  have hb1 := hb.timeR hk hn
  unfold GG.syncR
  generalize R.timeR n = R1 at *
  refine (at47 h1 hb1.plen id).mono ?_
  rintro _ u ⟨rfl, rfl⟩
  cases hi : R1.at_ id with
  | none =>
    simp only [lss_n, bindO, show decide ((-1 : Int) < 0) = true from rfl, hcond]
    exact ⟨⟨_, _, h1, k1⟩, by trivial⟩
  | some i =>
    have hlt : i < R1.l.length := (List.findIdx?_eq_some_iff_getElem.1 (show R1.l.findIdx? _ = some i from hi)).1
    simp only [lss_n, bindO, show decide ((i : Int) < 0) = false from by rw [decide_eq_false_iff_not]; omega, hcond, hvNil, hvFld, h1.ld, gC, List.getElem?_cons_succ, List.getElem?_cons_zero, neq_i3]
    by_cases he : gen = R1.gen
    · simp only [he, decide_true, Bool.not_true, if_true]
      refine (set48 h1 hb1.plen).mono ?_
      rintro _ v ⟨L2, h2, k2⟩
      obtain ⟨q, x1, w, x2, x3, x4⟩ := h2.mput (i := i) hlt (j := 2) (by omega) (v := .lit (.int .i64 R1.now)) (hc_int _ _) (ho_int _ _) { (R1.l.getD i gm0) with heard := R1.now } rfl
      simp only [hvNil, hvFld, h2.ld, gC, List.getElem?_cons_succ, List.getElem?_cons_zero, x1, vField]
      refine x4 _ ?_
      simp only [x2.ld, gC, List.getElem?_cons_succ, List.getElem?_cons_zero, eql_n]
      have k12 := (k1.trans k2).trans x3
      change RSt w r (R1.setM i fun m => { m with heard := R1.now }) L2 Av o1 at x2
      have e2 : (R1.setM i fun m => { m with heard := R1.now }).l.length = R1.l.length := by unfold GG.setM; simp
      have e2s : (R1.setM i fun m => { m with heard := R1.now }).state = R1.state ∧ (R1.setM i fun m => { m with heard := R1.now }).shares = R1.shares := ⟨rfl, rfl⟩
      generalize (R1.setM i fun m => { m with heard := R1.now }) = R2 at *
      by_cases hs : R1.state = 2
      · simp only [hs, decide_true, if_true]
        exact ⟨⟨_, _, x2, k12⟩, by trivial⟩
      · simp only [hs, decide_false, if_false]
        obtain ⟨q3, y1, w3, y2, y3, y4⟩ := x2.mput (i := i) (by omega) (j := 4) (by omega) (v := .lit (.bool true)) (hc_bool _) (ho_bool _) { (R2.l.getD i gm0) with synced := true } rfl
        simp only [hvNil, hvFld, x2.ld, gC, List.getElem?_cons_succ, List.getElem?_cons_zero, y1, vField]
        refine y4 _ ?_
        have k13 := k12.trans y3
        change RSt w3 r (R2.setM i fun m => { m with synced := true }) L2 Av o1 at y2
        have e3 : (R2.setM i fun m => { m with synced := true }).l.length = R1.l.length := by unfold GG.setM; simp; exact e2
        have e3s : (R2.setM i fun m => { m with synced := true }).state = R1.state ∧ (R2.setM i fun m => { m with synced := true }).shares = R1.shares := e2s
        generalize (R2.setM i fun m => { m with synced := true }) = R3 at *
        have hl3 := hb1.plen
        refine HLoop.ghost (σ := Nat) (fun j => [.lit (.bool ((R3.l.take j).all (·.synced))), .lit (.int .i64 (j : Int))]) (fun j x => j ≤ R3.l.length ∧ x = w3) (fun j => R3.l.length - j) 0 rfl ⟨Nat.zero_le _, rfl⟩ ?_
        rintro j x Kc ⟨hj, rfl⟩ hKc
        simp only [List.headD_cons, List.tail_cons, hvNil, hvFld, y2.ld, gC, List.getElem?_cons_succ, List.getElem?_cons_zero, y2.len, lss_i]
        by_cases hjl : j < R3.l.length
        · obtain ⟨q4, z1, -, z3⟩ := y2.mem hjl
          have z4 := z3 4 (by omega) 1
          have htk := take_succ' gm0 R3.l hjl
          simp only [hjl, decide_true]
          refine Join.of (fun xs y => y = x ∧ xs = [.lit (.bool ((R3.l.take (j + 1)).all (·.synced)))]) ?_ ?_
          · rintro _ y ⟨rfl, rfl⟩
            simp only [List.headD_cons, inc_i hjl (by omega)]
            exact hKc (j + 1) _ _ rfl ⟨hjl, rfl⟩ (by omega)
          · intro K39 hK39
            rw [htk, List.all_append] at hK39
            cases ha : (R3.l.take j).all (·.synced) with
            | true =>
              simp only [hvNil, hvFld, y2.ld, gC, List.getElem?_cons_succ, List.getElem?_cons_zero, z1, vField, z4, gmC]
              exact hK39 _ _ ⟨rfl, by rw [ha]; simp⟩
            | false =>
              simp only
              exact hK39 _ _ ⟨rfl, by rw [ha]; rfl⟩
        · obtain rfl : j = R3.l.length := by omega
          rw [List.take_length]
          simp only [hjl, decide_false]
          refine Join.of (fun _ y => RSt y r R3.syncR2 L2 Av o1 ∧ Kept s y r Lv L2) ?_ ?_
          · rintro _ y ⟨h5, k5⟩
            have e5 : R3.syncR2.shares = R1.shares := by unfold GG.syncR2; split; exact e3s.2; exact e3s.2
            have hsh := h5.sh
            rw [e5] at hsh
            simp only [hvNil, hvFld, h5.ld, gC, List.getElem?_cons_succ, List.getElem?_cons_zero]
            have hbs := hb1.sh.1
            rw [← hsh] at hbs
            refine (refOf22 o1 id y (by omega)).mono ?_
            rintro _ z ⟨rfl, rfl⟩
            rw [hsh]
            exact ⟨⟨_, _, h5, k5⟩, by trivial⟩
          · intro K49 hK49
            refine Join.of (fun xs y => y = x ∧ xs = [.lit (.bool (R3.l.all (·.synced) && decide (R3.state = 3)))]) ?_ ?_
            · rintro _ y ⟨rfl, rfl⟩
              simp only [List.headD_cons]
              unfold GG.syncR2 at hK49
              cases hc : R3.l.all (·.synced) && decide (R3.state = 3) with
              | true =>
                simp only [Bool.and_eq_true, decide_eq_true_eq] at hc
                rw [if_pos hc] at hK49
                simp only [hvNil, hvFld]
                refine store1 y2.at_ (by simp [gC]) (hc_int _ _) (ho_int _ _) rfl ?_
                obtain ⟨h6, k6⟩ := y2.put { R3 with state := 4 } Av o1 rfl y2.av y2.sh
                exact hK49 _ _ ⟨h6, k13.trans k6⟩
              | false =>
                simp only
                rw [if_neg (fun hh => by rw [hh.1, decide_eq_true hh.2] at hc; cases hc)] at hK49
                exact hK49 _ _ ⟨y2, k13⟩
            · intro K52 hK52
              cases ha : R3.l.all (·.synced) with
              | true =>
                simp only [hvNil, hvFld, y2.ld, gC, List.getElem?_cons_succ, List.getElem?_cons_zero, eql_n]
                exact hK52 _ _ ⟨rfl, by rw [ha]; simp⟩
              | false =>
                simp only
                exact hK52 _ _ ⟨rfl, by rw [ha]; rfl⟩
    · simp only [he, decide_false, Bool.not_false, if_false]
      exact ⟨⟨_, _, h1, k1⟩, by trivial⟩
end
end Go.Proofs.YtkcgokkgefgcjaaGreatDoor.AS
end
section
namespace Go.Proofs.YtkcgokkgefgcjaaGreatDoor.AS
open Go.Proofs.YtkcgokkgefgcjaaGreatDoor.H Go.Proofs.YtkcgokkgefgcjaaGreatDoor.G0
set_option linter.unusedVariables false
set_option linter.unusedSimpArgs false
set_option maxRecDepth 100000
namespace GG
noncomputable def readyF (g : GG) : GG := if g.l.all (·.joined) = true then g.formR else g
noncomputable def leaveR2 (g : GG) : GG := if g.l = [] then g.emptyR else (if g.state = 2 then g else g.prepareR).readyF
noncomputable def leaveR (g : GG) (id : By) (al : List Top) (n : Int) : GG × Int :=
  match (g.tickR al n).at_ id with
  | none => (g.tickR al n, 13)
  | some i => ({ g.tickR al n with l := (g.tickR al n).l.take i ++ (g.tickR al n).l.drop (i + 1) }.leaveR2, 0)
end GG
section
variable {s : HS} {r : Nat} {R : GG} {Lv Av : HV} {o : Option DD} {K : Nat}
/-- It is formed, if all have joined. -/
theorem readyF_k (h : RSt s r R Lv Av o) (hb : Bd K R) {Q : HV → HS → Prop} {K43 : List HV → HS → Prop} (hQ : ∀ t Lv' o', RSt t r R.readyF Lv' Av o' → Kept s t r Lv Lv' → K43 [] t) :
    HC Tryz.prog 52 [.ptr r 0] s (fun r46 s47 => hcond r46 (HC Tryz.prog 53 [.ptr r 0] s47 (fun r48 s49 => K43 [] s49)) (K43 [] s47)) := by
  refine (ready52 h hb.plen).mono ?_
  rintro _ t ⟨rfl, rfl⟩
  unfold GG.readyF at hQ
  cases hj : R.l.all (·.joined) with
  | true =>
    rw [if_pos hj] at hQ
    simp only [hcond]
    refine (formB h hb).mono ?_
    rintro _ u ⟨L1, o1, h1, k1⟩
    exact hQ u L1 o1 h1 k1
  | false =>
    rw [if_neg (by rw [hj]; exact Bool.false_ne_true)] at hQ
    simp only [hcond]
    exact hQ t Lv o h (Kept.refl _ _ _)
theorem leave22 (h : RSt s r R Lv Av o) (hb : Bd K R) (hk : K + 1 ≤ 1000000) (id : By) {al : List Top} (hal : al.length ≤ 1000) {n : Int} (hn : n ≤ 1125899906842624) : HC Tryz.prog 22 [.ptr r 0, strV id, rowL topC 2 al, .lit (.int .i64 n)] s (fun v t => (∃ Lv' o', RSt t r (R.leaveR id al n).1 Lv' (rowL topC 2 al) o' ∧ Kept s t r Lv Lv') ∧ v = .lit (.int .i64 (R.leaveR id al n).2)) := by
  refine HC22 ?_
  unfold c22
  simp only [hvNil, hvFld, bindO]
  refine store1 h.at_ (by simp [gC]) (hc_rowV topC 2 (some al)) (ho_rowV topC 2 (some al)) rfl ?_
  obtain ⟨h0, k0⟩ := h.put { R with all := al } (rowL topC 2 al) o rfl (.inr rfl) h.sh
  rw [show (gC R Lv Av o).set 9 (rowL topC 2 al) = gC { R with all := al } Lv (rowL topC 2 al) o from rfl]
  refine (time46 h0 (hb.setAll hal) hk hn).mono ?_
  rintro _ t ⟨L1, o1, h1, k1'⟩
  have k1 := k0.trans k1'
  have hb1 : Bd (K + 1) (R.tickR al n) := (hb.setAll hal).timeR hk hn
  change RSt t r (R.tickR al n) L1 (rowL topC 2 al) o1 at h1
  unfold GG.leaveR
  generalize R.tickR al n = R1 at *
  clear h0 k0 k1'
  refine (at47 h1 hb1.plen id).mono ?_
  rintro _ u ⟨rfl, rfl⟩
  cases hi : R1.at_ id with
  | none =>
    simp only [lss_n, show decide ((-1 : Int) < 0) = true from rfl, hcond]
    exact ⟨⟨_, _, h1, k1⟩, trivial⟩
  | some i =>
    have hlt : i < R1.l.length := (List.findIdx?_eq_some_iff_getElem.1 (show R1.l.findIdx? _ = some i from hi)).1
    have hpl := hb1.plen
    obtain ⟨q, f, rfl, hq⟩ : ∃ q f, L1 = .view q 0 5 R1.l.length f ∧ u q = some (.cells (rows gmC R1.l)) := by
      rcases h1.l with ⟨-, -, e⟩ | ⟨q, f, e1, e2, -⟩
      · omega
      · exact ⟨q, f, e1, e2⟩
    simp only [lss_n, show decide ((i : Int) < 0) = false from by rw [decide_eq_false_iff_not]; omega, hcond, hvNil, hvFld, h1.ld, gC, List.getElem?_cons_succ, List.getElem?_cons_zero, slice_view_hi .i64 (Nat.le_of_lt hlt), inc_i hlt (by omega), slice_view_lo .i64 (show i + 1 ≤ R1.l.length by omega), Nat.zero_add]
    refine hBS0 fun id9 hid => ?_
    have hle := le_set_new (.cells ([] : List HV)) (le_refl' u) hid
    have hld : ∀ k, vLoad (u.set id9 (.cells [])) (.ptr r k) 1 false = (gC R1 (.view q 0 5 R1.l.length f) (rowL topC 2 al) o1)[k]? := fun k => load_cell k 1 (hle _ _ h1.at_)
    refine ⟨by rw [hld]; rfl, by rw [hld]; rfl, ?_⟩
    have hrl : (rows gmC R1.l).length = R1.l.length * 5 := rows_len gmC_len _
    have hlc1 : ∀ v, HS.le u v → lcells v 5 (.view q 0 5 i (f && i == R1.l.length)) = some (rows gmC (R1.l.take i)) := fun v hv => by
      simp only [lcells, hv _ _ hq]
      rw [if_pos ⟨trivial, by omega⟩, List.drop_zero, rows_take gmC_len]
    have hlc2 : ∀ v, HS.le u v → lcells v 5 (.view q ((i + 1) * 5) 5 (R1.l.length - (i + 1)) f) = some (rows gmC (R1.l.drop (i + 1))) := fun v hv => by
      simp only [lcells, hv _ _ hq]
      rw [if_pos ⟨trivial, by omega⟩, rows_drop gmC_len]
      rw [List.take_of_length_le (by rw [rows_len gmC_len, List.length_drop]; exact Nat.le_refl _)]
    refine app_empty (b := u) hle hid (set_at _ _ _) (hlc1 _ hle) (k := i) rfl (by rw [rows_len gmC_len, List.length_take]; congr 1; omega) ⟨by omega, by omega⟩ fun A1 t1 a1 a2 => ?_
    refine ⟨by rw [hld]; exact load_cell 8 1 (a2 _ _ h1.at_), ?_⟩
    refine acc0_appS a1 a2 (hlc2 _ a2) (k := R1.l.length - (i + 1)) rfl (by rw [rows_len gmC_len, List.length_drop]) ⟨by omega, by omega⟩ fun A2 t2 c1 c2 => ?_
    rw [← rows_app] at c1
    have hA' : ∀ k ob, u k = some ob → accId A2 ≠ some k := fun k ob hk e => by
      rcases c1 with (⟨rfl, -⟩ | ⟨q, f, g1, rfl, -⟩) | ⟨-, -, q, g1, rfl, -⟩
      · cases e
      · injection e with e; rw [← e, g1] at hk; cases hk
      · injection e with e; rw [← e, g1] at hk; cases hk
    refine store1 (c2 _ _ h1.at_) (show 8 < (gC R1 (.view q 0 5 R1.l.length f) (rowL topC 2 al) o1).length from by simp [gC]) (acc0_one c1).2 (acc0_one c1).1 rfl ?_
    have hr := hA' r _ h1.at_
    have h2 : RSt (t2.set r (.cells (gC { R1 with l := R1.l.take i ++ R1.l.drop (i + 1) } A2 (rowL topC 2 al) o1))) r { R1 with l := R1.l.take i ++ R1.l.drop (i + 1) } A2 (rowL topC 2 al) o1 := by
      have hlen : i + (R1.l.length - (i + 1)) = (R1.l.take i ++ R1.l.drop (i + 1)).length := by rw [List.length_append, List.length_take, List.length_drop]; omega
      rw [hlen] at c1
      exact ⟨set_at _ _ _, (acc0_row c1).keepq fun q ob hq hs => by rw [set_ne _ _ (fun e => hr (by rw [← e]; exact hq))]; exact hs, hr, h1.av, h1.sh⟩
    have k2 : Kept u (t2.set r (.cells (gC { R1 with l := R1.l.take i ++ R1.l.drop (i + 1) } A2 (rowL topC 2 al) o1))) r (.view q 0 5 R1.l.length f) A2 := fun k ob z1 z2 z3 => ⟨by rw [set_ne _ _ z1]; exact c2 _ _ z3, hA' k ob z3⟩
    rw [show (gC R1 (.view q 0 5 R1.l.length f) (rowL topC 2 al) o1).set 8 A2 = gC { R1 with l := R1.l.take i ++ R1.l.drop (i + 1) } A2 (rowL topC 2 al) o1 from rfl]
    have hb2 : Bd (K + 1) { R1 with l := R1.l.take i ++ R1.l.drop (i + 1) } := ⟨hb1.now, hb1.since, fun m hm => by
      rcases List.mem_append.1 (show m ∈ R1.l.take i ++ R1.l.drop (i + 1) from hm) with hm | hm
      · exact hb1.mem m (List.mem_of_mem_take hm)
      · exact hb1.mem m (List.mem_of_mem_drop hm), hb1.gen, by
      show (R1.l.take i ++ R1.l.drop (i + 1)).length ≤ K + 1
      have := hb1.len
      rw [List.length_append, List.length_take, List.length_drop]; omega, hb1.all, hb1.sh, hb1.k⟩
    have k12 := k1.trans k2
    generalize (t2.set r (.cells (gC { R1 with l := R1.l.take i ++ R1.l.drop (i + 1) } A2 (rowL topC 2 al) o1))) = t3 at *
    generalize ({ R1 with l := R1.l.take i ++ R1.l.drop (i + 1) } : GG) = R2 at *
    simp only [h2.ld, gC, List.getElem?_cons_succ, List.getElem?_cons_zero, h2.len, eql_n]
    unfold GG.leaveR2
    by_cases hne : R2.l = []
    · rw [show decide ((R2.l.length : Int) = 0) = true from by rw [hne]; rfl, if_pos hne]
      simp only
      refine (empty57 h2).mono ?_
      rintro _ v ⟨h3, k3⟩
      exact ⟨⟨_, _, h3, k12.trans k3⟩, trivial⟩
    · have hpos : R2.l.length ≠ 0 := fun e => hne (List.eq_nil_of_length_eq_zero e)
      rw [show decide ((R2.l.length : Int) = 0) = false from by rw [decide_eq_false_iff_not]; omega, if_neg hne]
      simp only
      refine Join.of (fun _ v => ∃ Lv' o', RSt v r (if R2.state = 2 then R2 else R2.prepareR) Lv' (rowL topC 2 al) o' ∧ Kept s v r Lv Lv') ?_ ?_
      rotate_left
      · intro K34 hK34
        simp only [h2.ld, gC, List.getElem?_cons_succ, List.getElem?_cons_zero, neq_i3]
        by_cases hs : R2.state = 2
        · simp only [hs, decide_true, Bool.not_true]
          exact hK34 _ _ ⟨_, _, by rw [if_pos hs]; exact h2, k12⟩
        · simp only [hs, decide_false, Bool.not_false]
          refine (prepare51 h2 hb2.plen).mono ?_
          rintro _ v ⟨L3, h3, k3⟩
          exact hK34 _ _ ⟨_, _, by rw [if_neg hs]; exact h3, k12.trans k3⟩
      rintro _ v ⟨L3, o3, h3, k3⟩
      have hb3 : Bd (K + 1) (if R2.state = 2 then R2 else R2.prepareR) := by
        split
        · exact hb2
        · exact hb2.prepareR
      generalize (if R2.state = 2 then R2 else R2.prepareR) = R3 at *
      refine Join.of (fun _ w => ∃ Lv' o', RSt w r R3.readyF Lv' (rowL topC 2 al) o' ∧ Kept s w r Lv Lv') ?_ ?_
      · rintro _ w ⟨L4, o4, h4, k4⟩
        exact ⟨⟨_, _, h4, k4⟩, trivial⟩
      · intro K43 hK43
        exact readyF_k h3 hb3 (Q := fun _ _ => True) fun w L4 o4 h4 k4 => hK43 _ _ ⟨_, _, h4, k3.trans k4⟩
end
end Go.Proofs.YtkcgokkgefgcjaaGreatDoor.AS
end
section
namespace Go.Proofs.YtkcgokkgefgcjaaGreatDoor.AS
open Go.Proofs.YtkcgokkgefgcjaaGreatDoor.H Go.Proofs.YtkcgokkgefgcjaaGreatDoor.G0
set_option linter.unusedVariables false
set_option linter.unusedSimpArgs false
set_option maxRecDepth 100000
section
variable {s : HS} {r : Nat} {R : GG} {Lv Av : HV} {o : Option DD} {K : Nat}
/-- set, and that the row is an own one. -/
theorem set48A (h : RSt s r R Lv Av o) (hl : R.l.length ≤ 1000000) : HC Tryz.prog 48 [.ptr r 0] s (fun v t => ∃ Lv', RSt t r R Lv' Av o ∧ Kept s t r Lv Lv' ∧ Acc0 (s.del r) t 5 Lv' R.l.length (rows gmC R.l) ∧ HS.le (s.del r) t) := by
  refine HC48 ?_
  unfold c48
  refine hBS0 fun id hid => ?_
  have hle := le_set_new (.cells ([] : List HV)) (le_refl' s) hid
  have hld : vLoad (s.set id (.cells [])) (.ptr r 8) 1 false = some Lv := load_cell 8 1 (hle _ _ h.at_)
  simp only [hvNil, hvFld, bindO, hld]
  refine app_empty (b := s) hle hid (set_at _ _ _) (h.l.le hle).lc h.l.llen h.l.cl ⟨by omega, by omega⟩ fun A' t' k1 k2 => ?_
  have hA' : ∀ k ob, s k = some ob → accId A' ≠ some k := fun k ob hk e => by
    rcases k1 with (⟨rfl, -⟩ | ⟨q, f, h1, rfl, -⟩) | ⟨-, -, q, h1, rfl, -⟩
    · cases e
    · injection e with e; rw [← e, h1] at hk; cases hk
    · injection e with e; rw [← e, h1] at hk; cases hk
  refine store1 (k2 _ _ h.at_) (by simp [gC]) (acc0_one k1).2 (acc0_one k1).1 rfl ?_
  rw [show (gC R Lv Av o).set 8 A' = gC R A' Av o from rfl]
  have hr := hA' r _ h.at_
  have hdel : HS.le (s.del r) (t'.set r (.cells (gC R A' Av o))) := fun k ob hk => by
    have hkr : k ≠ r := fun e => by rw [e, del_at] at hk; cases hk
    rw [del_ne _ hkr] at hk
    rw [set_ne _ _ hkr]
    exact k2 _ _ hk
  have hacc : Acc0 (s.del r) (t'.set r (.cells (gC R A' Av o))) 5 A' R.l.length (rows gmC R.l) := by
    have k1' := k1.base (le_del s r)
    rcases k1' with (h0 | ⟨q, f, g1, rfl, g3, g4, g5⟩) | ⟨g1, g2, q, g3, rfl, g5⟩
    · exact .inl (.inl h0)
    · exact .inl (.inr ⟨q, f, g1, rfl, by rw [set_ne _ _ (fun e => hr (by rw [← e]; rfl))]; exact g3, g4, g5⟩)
    · exact .inr ⟨g1, g2, q, g3, rfl, by rw [set_ne _ _ (fun e => hr (by rw [← e]; rfl))]; exact g5⟩
  exact ⟨A', ⟨set_at _ _ _, (acc0_row k1).keepq fun q ob hq hs => by rw [set_ne _ _ (fun e => hr (by rw [← e]; exact hq))]; exact hs, hr, h.av, h.sh⟩, fun k ob h1 h2 h3 => ⟨by rw [set_ne _ _ h1]; exact k2 _ _ h3, hA' k ob h3⟩, hacc, hdel⟩
/-- Two lists of texts. -/
theorem texts28 (la lb : List By) (s : HS) (hl : la.length ≤ 1000000000) : HC Tryz.prog 28 [rowL strC 1 la, rowL strC 1 lb] s (fun v t => t = s ∧ v = .lit (.bool (decide (la = lb)))) := by
  refine HC28 ?_
  unfold c28
  have i1 := fun i (hi : i < la.length) => idx_rowL strC_len ([] : By) la .i64 hi
  have i2 := fun i (hi : i < lb.length) => idx_rowL strC_len ([] : By) lb .i64 hi
  have n1 : ∀ u, vLenT (Tryz.prog.underlying 33) u (rowL strC 1 la) = some (.lit (.int .i64 ((la.length : Nat) : Int))) := fun u => rfl
  have n2 : ∀ u, vLenT (Tryz.prog.underlying 33) u (rowL strC 1 lb) = some (.lit (.int .i64 ((lb.length : Nat) : Int))) := fun u => rfl
  simp only [n1, n2, bindO]
  rw [neq_n]
  by_cases hn : la.length = lb.length
  · simp only [hn, decide_true, Bool.not_true, hcond]
    refine HLoop.ghost (σ := Nat) (fun i => [.lit (.int .i64 (i : Int))]) (fun i t => i ≤ la.length ∧ t = s ∧ la.take i = lb.take i) (fun i => la.length - i) 0 rfl ⟨Nat.zero_le _, rfl, by simp⟩ ?_
    rintro i t K ⟨h1, rfl, h3⟩ hK
    simp only [List.headD_cons, ← hn, lss_i]
    by_cases hi : i < la.length
    · have la1 := take_succ' ([] : By) la hi
      have lb1 := take_succ' ([] : By) lb (by omega : i < lb.length)
      have l0 : ∀ x : By, vLoad t (.elt (strC x) 0) 1 false = some (strV x) := fun x => rfl
      simp only [hi, decide_true, i1 i hi, i2 i (by omega), l0, neq_s]
      by_cases he : la.getD i [] = lb.getD i []
      · simp only [he, decide_true, Bool.not_true, inc_i hi (by omega)]
        exact hK (i + 1) _ _ rfl ⟨hi, rfl, by rw [la1, lb1, h3, he]⟩ (by omega)
      · simp only [he, decide_false, Bool.not_false]
        refine ⟨trivial, ?_⟩
        congr 2
        symm
        rw [decide_eq_false_iff_not]
        rintro rfl
        exact he rfl
    · obtain rfl : i = la.length := by omega
      simp only [hi, decide_false]
      refine ⟨trivial, ?_⟩
      rw [List.take_length, hn, List.take_length] at h3
      simp [h3]
  · simp only [hn, decide_false, Bool.not_false, hcond]
    refine ⟨trivial, ?_⟩
    congr 2
    symm
    rw [decide_eq_false_iff_not]
    rintro rfl
    exact hn rfl
theorem same50 (la lb : List By) (s : HS) (hl : la.length ≤ 1000000000) : HC Tryz.prog 50 [rowL strC 1 la, rowL strC 1 lb] s (fun v t => t = s ∧ v = .lit (.bool (decide (la = lb)))) := by
  refine HC50 ?_
  unfold c50
  have i1 := fun i (hi : i < la.length) => idx_rowL strC_len ([] : By) la .i64 hi
  have i2 := fun i (hi : i < lb.length) => idx_rowL strC_len ([] : By) lb .i64 hi
  have n1 : ∀ u, vLenT (Tryz.prog.underlying 33) u (rowL strC 1 la) = some (.lit (.int .i64 ((la.length : Nat) : Int))) := fun u => rfl
  have n2 : ∀ u, vLenT (Tryz.prog.underlying 33) u (rowL strC 1 lb) = some (.lit (.int .i64 ((lb.length : Nat) : Int))) := fun u => rfl
  simp only [n1, n2, bindO]
  rw [neq_n]
  by_cases hn : la.length = lb.length
  · simp only [hn, decide_true, Bool.not_true, hcond]
    refine HLoop.ghost (σ := Nat) (fun i => [.lit (.int .i64 (i : Int))]) (fun i t => i ≤ la.length ∧ t = s ∧ la.take i = lb.take i) (fun i => la.length - i) 0 rfl ⟨Nat.zero_le _, rfl, by simp⟩ ?_
    rintro i t K ⟨h1, rfl, h3⟩ hK
    simp only [List.headD_cons, ← hn, lss_i]
    by_cases hi : i < la.length
    · have la1 := take_succ' ([] : By) la hi
      have lb1 := take_succ' ([] : By) lb (by omega : i < lb.length)
      have l0 : ∀ x : By, vLoad t (.elt (strC x) 0) 1 false = some (strV x) := fun x => rfl
      simp only [hi, decide_true, i1 i hi, i2 i (by omega), l0, neq_s]
      by_cases he : la.getD i [] = lb.getD i []
      · simp only [he, decide_true, Bool.not_true, inc_i hi (by omega)]
        exact hK (i + 1) _ _ rfl ⟨hi, rfl, by rw [la1, lb1, h3, he]⟩ (by omega)
      · simp only [he, decide_false, Bool.not_false]
        refine ⟨trivial, ?_⟩
        congr 2
        symm
        rw [decide_eq_false_iff_not]
        rintro rfl
        exact he rfl
    · obtain rfl : i = la.length := by omega
      simp only [hi, decide_false]
      refine ⟨trivial, ?_⟩
      rw [List.take_length, hn, List.take_length] at h3
      simp [h3]
  · simp only [hn, decide_false, Bool.not_false, hcond]
    refine ⟨trivial, ?_⟩
    congr 2
    symm
    rw [decide_eq_false_iff_not]
    rintro rfl
    exact hn rfl
end
end Go.Proofs.YtkcgokkgefgcjaaGreatDoor.AS
end
section
namespace Go.Proofs.YtkcgokkgefgcjaaGreatDoor.AS
open Go.Proofs.YtkcgokkgefgcjaaGreatDoor.H Go.Proofs.YtkcgokkgefgcjaaGreatDoor.G0
set_option linter.unusedVariables false
set_option linter.unusedSimpArgs false
set_option maxRecDepth 100000
namespace GG
noncomputable def joinR3 (g : GG) (k : Nat) (fresh : Bool) (tp : List By) : GG :=
  let g3 := g.setM k fun m => { m with heard := g.now }
  if fresh = true ∨ g3.state = 2 ∨ tp ≠ (g3.l.getD k gm0).tp then
    let g4 := g3.setM k fun m => { m with tp := tp }
    let g5 := if g4.state = 2 then g4 else g4.prepareR
    (g5.setM k fun m => { m with joined := true }).readyF
  else g3
noncomputable def joinR (g : GG) (id : By) (tp : List By) (al : List Top) (n : Int) : GG × By × Int × Int :=
  let R1 := g.tickR al n
  if 30 < tp.length then (R1, [], 0, 1)
  else if id = [] ∧ 20 ≤ R1.l.length then (R1, [], 0, 4)
  else if id ≠ [] ∧ R1.at_ id = none then (R1, [], 0, 13)
  else
    let R6 := (R1.join2 id).joinR3 (R1.joinI id) (decide (id = [])) tp
    (R6, (R6.l.getD (R1.joinI id) gm0).id, if R6.state = 2 then 0 else R6.gen, if R6.state = 2 then 14 else 0)
end GG
section
variable {s : HS} {r : Nat} {R : GG} {Lv Av : HV} {o : Option DD} {K : Nat}
theorem readyF_len (R : GG) : R.readyF.l.length = R.l.length := by
  unfold GG.readyF
  split
  · rename_i hj
    have hk : (R.keep fun m => m.joined).l = R.l := List.filter_eq_self.2 fun m hm => List.all_eq_true.1 hj m hm
    unfold GG.formR
    simp only
    split
    · show (R.keep fun m => m.joined).l.length = _
      rw [hk]
    · show (List.map _ (R.keep fun m => m.joined).l).length = _
      rw [List.length_map, hk]
  · rfl
/-- A member's topics are not written yet, perhaps. -/
structure RMid (s : HS) (r : Nat) (R : GG) (Lv Av : HV) (o : Option DD) (k : Nat) (tv : HV) : Prop where
  at_ : s r = some (.cells (gC R Lv Av o))
  l : ∃ q f, Lv = .view q 0 5 R.l.length f ∧ s q = some (.cells ((rows gmC R.l).set (k * 5 + 1) tv))
  lr : accId Lv ≠ some r
  av : (R.all = [] ∧ Av = nilV) ∨ Av = rowL topC 2 R.all
  sh : o.getD [] = R.shares
  hk : k < R.l.length
theorem RMid.ld {k : Nat} {tv : HV} (h : RMid s r R Lv Av o k tv) (j : Nat) : vLoad s (.ptr r j) 1 false = (gC R Lv Av o)[j]? := load_cell j 1 h.at_
theorem RSt.mid {k : Nat} (h : RSt s r R Lv Av o) (hk : k < R.l.length) : RMid s r R Lv Av o k (rowL strC 1 (R.l.getD k gm0).tp) := by
  obtain ⟨q, f, e1, e2⟩ : ∃ q f, Lv = .view q 0 5 R.l.length f ∧ s q = some (.cells (rows gmC R.l)) := by
    rcases h.l with ⟨-, -, e⟩ | ⟨q, f, e1, e2, -⟩
    · omega
    · exact ⟨q, f, e1, e2⟩
  refine ⟨h.at_, ⟨q, f, e1, ?_⟩, h.lr, h.av, h.sh, hk⟩
  rw [rows_set1 gmC_len gm0 (R.l.getD k gm0) (j := 1) (by omega) R.l hk rfl, getD_get _ _ hk, List.set_getElem_self]
  exact e2
/-- Its time is written. -/
theorem RMid.heard {k : Nat} {tv : HV} (h : RMid s r R Lv Av o k tv) (n : Int) : ∃ q, vIdx 5 Lv (.lit (.int .i64 (k : Int))) = some (.ptr q (k * 5)) ∧ ∃ t, RMid t r (R.setM k fun m => { m with heard := n }) Lv Av o k tv ∧ Kept s t r Lv Lv ∧ ∀ K : HS → Prop, K t → hStore s (.ptr q (k * 5 + 2)) (.lit (.int .i64 n)) 1 K := by
  obtain ⟨q, f, e1, e2⟩ := h.l
  have hlr := h.lr
  subst e1
  have hqr : q ≠ r := fun e => hlr (by rw [e]; rfl)
  refine ⟨q, by rw [idx_view .i64 h.hk, Nat.zero_add], s.set q (.cells ((rows gmC (R.setM k fun m => { m with heard := n }).l).set (k * 5 + 1) tv)), ⟨by rw [set_ne _ _ (Ne.symm hqr)]; exact h.at_, ⟨q, f, ?_, set_at _ _ _⟩, hlr, h.av, h.sh, ?_⟩, fun j ob h1 h2 h3 => ⟨by rw [set_ne _ _ (fun e => h2 (by rw [e]; rfl))]; exact h3, h2⟩, fun K hK => ?_⟩
  · unfold GG.setM; rw [List.length_set]
  · unfold GG.setM; rw [List.length_set]; exact h.hk
  · refine store1 e2 (by rw [List.length_set, rows_len gmC_len]; have := h.hk; omega) (hc_int _ _) (ho_int _ _) rfl ?_
    rw [List.set_comm _ _ (by omega : k * 5 + 1 ≠ k * 5 + 2), rows_set1 gmC_len gm0 { (R.l.getD k gm0) with heard := n } (j := 2) (by omega) R.l h.hk rfl]
    exact hK
/-- Its topics are written. -/
theorem RMid.tp {k : Nat} {tv : HV} (h : RMid s r R Lv Av o k tv) (tp : List By) : ∃ q, vIdx 5 Lv (.lit (.int .i64 (k : Int))) = some (.ptr q (k * 5)) ∧ ∃ t, RSt t r (R.setM k fun m => { m with tp := tp }) Lv Av o ∧ Kept s t r Lv Lv ∧ ∀ K : HS → Prop, K t → hStore s (.ptr q (k * 5 + 1)) (rowL strC 1 tp) 1 K := by
  obtain ⟨q, f, e1, e2⟩ := h.l
  have hlr := h.lr
  subst e1
  have hqr : q ≠ r := fun e => hlr (by rw [e]; rfl)
  refine ⟨q, by rw [idx_view .i64 h.hk, Nat.zero_add], s.set q (.cells (rows gmC (R.setM k fun m => { m with tp := tp }).l)), ⟨by rw [set_ne _ _ (Ne.symm hqr)]; exact h.at_, .inr ⟨q, f, ?_, set_at _ _ _, by rw [rows_len gmC_len]⟩, hlr, h.av, h.sh⟩, fun j ob h1 h2 h3 => ⟨by rw [set_ne _ _ (fun e => h2 (by rw [e]; rfl))]; exact h3, h2⟩, fun K hK => ?_⟩
  · unfold GG.setM; rw [List.length_set]
  · refine store1 e2 (by rw [List.length_set, rows_len gmC_len]; have := h.hk; omega) (hc_rowV strC 1 (some tp)) (ho_rowV strC 1 (some tp)) rfl ?_
    rw [List.set_set, rows_set1 gmC_len gm0 { (R.l.getD k gm0) with tp := tp } (j := 1) (by omega) R.l h.hk rfl]
    exact hK
/-- They were written before. -/
theorem RMid.st {k : Nat} {tv : HV} (h : RMid s r R Lv Av o k tv) (ht : tv = rowL strC 1 (R.l.getD k gm0).tp) : RSt s r R Lv Av o := by
  obtain ⟨q, f, e1, e2⟩ := h.l
  refine ⟨h.at_, .inr ⟨q, f, e1, ?_, by rw [rows_len gmC_len]⟩, h.lr, h.av, h.sh⟩
  rw [ht, rows_set1 gmC_len gm0 (R.l.getD k gm0) (j := 1) (by omega) R.l h.hk rfl, getD_get _ _ h.hk, List.set_getElem_self] at e2
  exact e2
end
end Go.Proofs.YtkcgokkgefgcjaaGreatDoor.AS
end
section
namespace Go.Proofs.YtkcgokkgefgcjaaGreatDoor.AS
open Go.Proofs.YtkcgokkgefgcjaaGreatDoor.H Go.Proofs.YtkcgokkgefgcjaaGreatDoor.G0
set_option linter.unusedVariables false
set_option linter.unusedSimpArgs false
set_option maxRecDepth 100000
section
variable {s : HS} {r : Nat} {R : GG} {Lv Av : HV} {o : Option DD} {K : Nat}
theorem Bd.setM {i : Nat} (h : Bd K R) (f : GM → GM) (hf : ∀ m, 0 ≤ m.heard ∧ m.heard ≤ 1125899906842624 ∧ m.tp.length ≤ 1000000 → 0 ≤ (f m).heard ∧ (f m).heard ≤ 1125899906842624 ∧ (f m).tp.length ≤ 1000000) : Bd K (R.setM i f) := Bd.updAt (i := i) h f hf
theorem join17 (h : RSt s r R Lv Av o) (hb : Bd K R) (hk : K + 3 ≤ 1000000) (id : By) (tp : List By) (htp : tp.length ≤ 1000000) {al : List Top} (hal : al.length ≤ 1000) {n : Int} (hn : n ≤ 1125899906842624) (hg : 0 ≤ R.given ∧ R.given < 99) (hgt : (R.tickR al n).given = R.given) :
    HC Tryz.prog 17 [.ptr r 0, strV id, rowL strC 1 tp, rowL topC 2 al, .lit (.int .i64 n)] s (fun v t => (∃ Lv' o', RSt t r (R.joinR id tp al n).1 Lv' (rowL topC 2 al) o' ∧ Kept s t r Lv Lv') ∧ v = .tup [strV (R.joinR id tp al n).2.1, .lit (.int .i64 (R.joinR id tp al n).2.2.1), .lit (.int .i64 (R.joinR id tp al n).2.2.2)]) := by
  refine HC17 ?_
  unfold c17
  simp only [hvNil, hvFld, bindO]
  refine store1 h.at_ (by simp [gC]) (hc_rowV topC 2 (some al)) (ho_rowV topC 2 (some al)) rfl ?_
  obtain ⟨h0, k0⟩ := h.put { R with all := al } (rowL topC 2 al) o rfl (.inr rfl) h.sh
  rw [show (gC R Lv Av o).set 9 (rowL topC 2 al) = gC { R with all := al } Lv (rowL topC 2 al) o from rfl]
  refine (time46 h0 (hb.setAll hal) (by omega) hn).mono ?_
  rintro _ t ⟨L1, o1, h1, k1'⟩
  have k1 := k0.trans k1'
  have hb1 : Bd (K + 1) (R.tickR al n) := (hb.setAll hal).timeR (by omega) hn
  change RSt t r (R.tickR al n) L1 (rowL topC 2 al) o1 at h1
  unfold GG.joinR
  generalize R.tickR al n = R1 at *
  rw [← hgt] at hg
  clear h0 k0 k1' hgt
  rw [show vLenT (Tryz.prog.underlying 33) t (rowL strC 1 tp) = some (.lit (.int .i64 ((tp.length : Nat) : Int))) from rfl]
  simp only [gtr_n]
  by_cases hlen : 30 < tp.length
  · simp only [show decide ((30 : Int) < (tp.length : Int)) = true from by simp; omega, hcond, hlen, if_true]
    exact ⟨⟨_, _, h1, k1⟩, by trivial⟩
  simp only [show decide ((30 : Int) < (tp.length : Int)) = false from by simp; omega, hcond, hlen, if_false]
  refine (at47 h1 hb1.plen id).mono ?_
  rintro _ u ⟨rfl, rfl⟩
  rw [show (HV.lit (.string { data := #[] })) = strV [] from rfl]
  simp only [eql_s]
  refine Join.of (fun xs v => v = u ∧ xs = [.lit (.bool (decide (id = [] ∧ 20 ≤ R1.l.length)))]) ?_ ?_
  rotate_left
  · intro K11 hK11
    by_cases hid : id = []
    · simp only [hid, decide_true, hvNil, hvFld, h1.ld, gC, List.getElem?_cons_succ, List.getElem?_cons_zero, h1.len, geq_n]
      refine hK11 _ _ ⟨rfl, ?_⟩
      congr 3
      simp [hid]
      omega
    · simp only [hid, decide_false]
      exact hK11 _ _ ⟨rfl, by simp [hid]⟩
  rintro _ v ⟨rfl, rfl⟩
  simp only [List.headD_cons]
  by_cases hfull : id = [] ∧ 20 ≤ R1.l.length
  · simp only [hfull, decide_true, if_true, and_self]
    exact ⟨⟨_, _, h1, k1⟩, by trivial⟩
  rw [if_neg hfull, show decide (id = [] ∧ 20 ≤ R1.l.length) = false from decide_eq_false hfull]
  simp only
  refine Join.of (fun xs w => w = v ∧ xs = [.lit (.bool (decide (id ≠ [] ∧ R1.at_ id = none)))]) ?_ ?_
  rotate_left
  · intro K19 hK19
    by_cases hid : id = []
    · simp only [hid, decide_true, vUn, Bool.not_true]
      exact hK19 _ _ ⟨rfl, by simp [hid]⟩
    · simp only [hid, decide_false, vUn, Bool.not_false, lss_n]
      refine hK19 _ _ ⟨rfl, ?_⟩
      cases hi : R1.at_ id with
      | none => simp [hid]
      | some i => simp [hid]
  rintro _ w ⟨rfl, rfl⟩
  simp only [List.headD_cons]
  by_cases hno : id ≠ [] ∧ R1.at_ id = none
  · rw [if_pos hno, show decide (id ≠ [] ∧ R1.at_ id = none) = true from decide_eq_true hno]
    simp only
    exact ⟨⟨_, _, h1, k1⟩, by trivial⟩
  rw [if_neg hno, show decide (id ≠ [] ∧ R1.at_ id = none) = false from decide_eq_false hno]
  simp only
  refine (set48A h1 hb1.plen).mono ?_
  rintro _ x ⟨L2, h2, k2, a2, le2⟩
  have k12 := k1.trans k2
  have hmj := joinI_lt R1 id hno
  refine Join.of (fun xs y => ∃ Lv3 tv, xs = [.lit (.int .i64 ((R1.joinI id : Nat) : Int))] ∧ RMid y r (R1.join2 id) Lv3 (rowL topC 2 al) o1 (R1.joinI id) tv ∧ (decide (id = []) = false → tv = rowL strC 1 ((R1.join2 id).l.getD (R1.joinI id) gm0).tp) ∧ Kept s y r Lv Lv3) ?_ ?_
  rotate_left
  · intro K26 hK26
    by_cases hid : id = []
    · subst hid
      simp only [decide_true, hvNil, hvFld, h2.ld, gC, List.getElem?_cons_succ, List.getElem?_cons_zero]
      rw [add_n (a := R1.given) (b := 1) (by omega) (by omega)]
      refine store1 h2.at_ (by simp [gC]) (hc_int _ _) (ho_int _ _) rfl ?_
      obtain ⟨h3, k3⟩ := h2.put { R1 with given := R1.given + 1 } (rowL topC 2 al) o1 rfl h2.av h2.sh
      rw [show (gC R1 L2 (rowL topC 2 al) o1).set 5 (.lit (.int .i64 (R1.given + 1))) = gC { R1 with given := R1.given + 1 } L2 (rowL topC 2 al) o1 from rfl]
      have a3 : Acc0 (w.del r) (x.set r (.cells (gC { R1 with given := R1.given + 1 } L2 (rowL topC 2 al) o1))) 5 L2 R1.l.length (rows gmC R1.l) := by
        have hlr := h2.lr
        rcases a2 with (e | ⟨q, f, e1, rfl, e3, e4⟩) | ⟨e1, e2, q, e3, rfl, e5⟩
        · exact .inl (.inl e)
        · exact .inl (.inr ⟨q, f, e1, rfl, by rw [set_ne _ _ (fun e => hlr (by rw [← e]; rfl))]; exact e3, e4⟩)
        · exact .inr ⟨e1, e2, q, e3, rfl, by rw [set_ne _ _ (fun e => hlr (by rw [← e]; rfl))]; exact e5⟩
      have le3 : HS.le (w.del r) (x.set r (.cells (gC { R1 with given := R1.given + 1 } L2 (rowL topC 2 al) o1))) := fun k ob hk => by
        have hkr : k ≠ r := fun e => by rw [e, del_at] at hk; cases hk
        rw [set_ne _ _ hkr]
        exact le2 _ _ hk
      generalize x.set r (.cells (gC { R1 with given := R1.given + 1 } L2 (rowL topC 2 al) o1)) = x3 at *
      simp only [h3.ld, gC, List.getElem?_cons_succ, List.getElem?_cons_zero]
      obtain ⟨m, hm⟩ : ∃ m : Nat, R1.given + 1 = (m : Int) := ⟨(R1.given + 1).toNat, by omega⟩
      rw [hm]
      refine (dec17 (n := m) (by omega) x3).mono ?_
      rintro _ y ⟨rfl, rfl⟩
      refine ⟨by rw [h3.ld]; rfl, ?_⟩
      rw [show (HV.lit (.string { data := #[109] })) = strV [109] from rfl, add_s (by have := decL_len 1 m (by omega); simp; omega)]
      simp only [List.cons_append, List.nil_append]
      rw [show vMk [(0, 1), (1, 1), (2, 1), (3, 1), (4, 1)] [.lit (.string .empty), .lit (.slice none 0 0), .lit (.int .i64 0), .lit (.bool false), .lit (.bool false)] [(0, strV (109 :: decL m))] = some (.agg [strV (109 :: decL m), nilV, .lit (.int .i64 0), .lit (.bool false), .lit (.bool false)]) from rfl]
      simp only
      refine hBS_in (cs := [strV (109 :: decL m), nilV, .lit (.int .i64 0), .lit (.bool false), .lit (.bool false)]) rfl fun id9 h9 => ?_
      refine ⟨by rw [h3.ld]; exact load_cell 8 1 (le_set_new _ (le_refl' y) h9 _ _ h3.at_), ?_⟩
      obtain ⟨b, hb1', a4, hb2'⟩ : ∃ b, HS.le b y ∧ Acc0 b y 5 L2 R1.l.length (rows gmC R1.l) ∧ ∀ k ob, accId L2 ≠ some k → y k = some ob → b k = some ob := by
        rcases a3 with (⟨rfl, e2, e3⟩ | ⟨q, f, e1, rfl, e3, e4, e5⟩) | ⟨e1, e2, q, e3, rfl, e5⟩
        · exact ⟨y, le_refl' y, .inl (.inl ⟨rfl, e2, e3⟩), fun k ob _ hk => hk⟩
        · exact ⟨y.del q, le_del y q, .inl (.inr ⟨q, f, del_at y q, rfl, e3, e4, e5⟩), fun k ob hk hy => by rw [del_ne _ (fun e => hk (by rw [e]; rfl))]; exact hy⟩
        · exact ⟨y.del q, le_del y q, .inr ⟨e1, e2, q, del_at y q, rfl, e5⟩, fun k ob hk hy => by rw [del_ne _ (fun e => hk (by rw [e]; rfl))]; exact hy⟩
      have hpl := hb1.plen
      refine acc0_appS (a4.grow h9 (.cells [strV (109 :: decL m), nilV, .lit (.int .i64 0), .lit (.bool false), .lit (.bool false)])) (le_setBoth hb1' id9 _) (x := .view id9 0 5 1 true) (xs := [strV (109 :: decL m), nilV, .lit (.int .i64 0), .lit (.bool false), .lit (.bool false)]) (k := 1) (by simp [lcells, set_at]) rfl rfl ⟨by omega, by omega⟩ fun A' t' c1 c2 => ?_
      have hkeep : ∀ k ob, accId L2 ≠ some k → y k = some ob → t' k = some ob ∧ accId A' ≠ some k := fun k ob z1 z2 => by
        have hk9 : k ≠ id9 := fun e => by rw [e, h9] at z2; cases z2
        have hbk := hb2' k ob z1 z2
        refine ⟨c2 k ob (by rw [set_ne _ _ hk9]; exact hbk), fun e => ?_⟩
        rcases c1 with (⟨rfl, -⟩ | ⟨q, f, g1, rfl, -⟩) | ⟨-, -, q, g1, rfl, -⟩
        · cases e
        · injection e with e; rw [e, set_ne _ _ hk9, hbk] at g1; cases g1
        · injection e with e; rw [e, set_ne _ _ hk9, hbk] at g1; cases g1
      have kr := hkeep r _ h3.lr h3.at_
      have enm : R1.nm [] = 109 :: decL m := by unfold GG.nm; rw [if_pos rfl, hm]; rfl
      have e2 : R1.join2 [] = { R1 with given := (m : Int), l := R1.l ++ [⟨109 :: decL m, [], 0, false, false⟩] } := by unfold GG.join2; rw [if_pos rfl, enm, hm]
      have ei : R1.joinI [] = R1.l.length := by unfold GG.joinI; rw [if_pos rfl]
      refine store1 kr.1 (by simp [gC]) (acc0_one c1).2 (acc0_one c1).1 rfl ?_
      rw [show (gC { R1 with given := R1.given + 1 } L2 (rowL topC 2 al) o1).set 8 A' = gC { R1 with given := (m : Int), l := R1.l ++ [⟨109 :: decL m, [], 0, false, false⟩] } A' (rowL topC 2 al) o1 from by rw [hm]; rfl]
      have l8 : vLoad (t'.set r (.cells (gC { R1 with given := (m : Int), l := R1.l ++ [⟨109 :: decL m, [], 0, false, false⟩] } A' (rowL topC 2 al) o1))) (.ptr r 8) 1 false = some A' := load_cell 8 1 (set_at _ _ _)
      have hlA : ∀ u, vLenT (Tryz.prog.underlying 55) u A' = some (.lit (.int .i64 ((R1.l.length + 1 : Nat) : Int))) := fun u => (acc0_row c1).len _ u
      simp only [l8, hlA]
      rw [show vBin .sub (.lit (.int .i64 ((R1.l.length + 1 : Nat) : Int))) (.lit (.int .i64 1)) = some (.lit (.int .i64 ((R1.l.length + 1 - 1 : Nat) : Int))) from sub_i (a := R1.l.length + 1) (b := 1) (by omega) (by omega)]
      simp only [Nat.add_sub_cancel]
      rw [ei, e2] at hK26
      obtain ⟨q', f', d1, d2⟩ : ∃ q' f', A' = .view q' 0 5 (R1.l.length + 1) f' ∧ t' q' = some (.cells (rows gmC R1.l ++ [strV (109 :: decL m), nilV, .lit (.int .i64 0), .lit (.bool false), .lit (.bool false)])) := by
        rcases c1 with (⟨-, -, e⟩ | ⟨q, f, -, g2, g3, -⟩) | ⟨e, -⟩
        · omega
        · exact ⟨q, f, g2, g3⟩
        · omega
      refine hK26 _ _ ⟨A', nilV, rfl, ⟨set_at _ _ _, ⟨q', f', by rw [d1, List.length_append]; rfl, ?_⟩, kr.2, h2.av, h2.sh, by simp⟩, by simp, fun k ob z1 z2 z3 => ?_⟩
      · have hq'r : q' ≠ r := fun e => kr.2 (by rw [d1, e]; rfl)
        rw [set_ne _ _ hq'r, d2, rows_app, rows_one, List.set_append_right _ _ (by rw [rows_len gmC_len]; omega), rows_len gmC_len]
        rw [show R1.l.length * 5 + 1 - R1.l.length * 5 = 1 by omega]
        rfl
      · have z4 := k12 k ob z1 z2 z3
        have z5 := k3 k ob z1 z4.2 z4.1
        have z6 := hkeep k ob z5.2 z5.1
        exact ⟨by rw [set_ne _ _ z1]; exact z6.1, z6.2⟩
    · simp only [hid, decide_false]
      obtain ⟨i, hi⟩ : ∃ i, R1.at_ id = some i := by
        cases hi : R1.at_ id with
        | none => exact absurd ⟨hid, hi⟩ hno
        | some i => exact ⟨i, rfl⟩
      have ei : R1.joinI id = i := by unfold GG.joinI; rw [if_neg hid, hi]; rfl
      have e2 : R1.join2 id = R1 := by unfold GG.join2; rw [if_neg hid]
      rw [ei, e2] at hK26 hmj
      rw [hi]
      exact hK26 _ _ ⟨L2, _, rfl, h2.mid hmj, fun _ => rfl, k12⟩
  rintro _ y ⟨L3, tv, rfl, hmid, htv, k3⟩
  have hb2 : Bd (K + 2) (R1.join2 id) := hb1.join2 (by omega)
  generalize R1.join2 id = R2 at *
  generalize R1.joinI id = k at *
  obtain ⟨fr, hfr⟩ : ∃ fr, decide (id = []) = fr := ⟨_, rfl⟩
  rw [hfr] at htv ⊢
  obtain ⟨q, x1, y1, hm1, kk1, st1⟩ := hmid.heard R2.now
  simp only [List.headD_cons, hvNil, hvFld, hmid.ld, gC, List.getElem?_cons_succ, List.getElem?_cons_zero, x1, vField]
  refine st1 _ ?_
  have k4 := k3.trans kk1
  unfold GG.joinR3
  simp only
  have htv3 : fr = false → tv = rowL strC 1 ((R2.setM k fun m => { m with heard := R2.now }).l.getD k gm0).tp := fun e => by
    rw [htv e]
    unfold GG.setM
    simp only
    rw [getD_get _ (R2.l.set k _) (by rw [List.length_set]; exact hmj), List.getElem_set_self]
  have hb3 : Bd (K + 2) (R2.setM k fun m => { m with heard := R2.now }) := hb2.setM (fun m => { m with heard := R2.now }) (fun m hm => ⟨hb2.now.1, hb2.now.2, hm.2.2⟩)
  have hk3 : k < (R2.setM k fun m => { m with heard := R2.now }).l.length := hm1.hk
  generalize (R2.setM k fun m => { m with heard := R2.now }) = R3 at *
  refine Join.of (fun _ z => ∃ Lv' o', RSt z r (if fr = true ∨ R3.state = 2 ∨ tp ≠ (R3.l.getD k gm0).tp then ((if (R3.setM k fun m => { m with tp := tp }).state = 2 then (R3.setM k fun m => { m with tp := tp }) else (R3.setM k fun m => { m with tp := tp }).prepareR).setM k fun m => { m with joined := true }).readyF else R3) Lv' (rowL topC 2 al) o' ∧ Kept s z r Lv Lv' ∧ k < (if fr = true ∨ R3.state = 2 ∨ tp ≠ (R3.l.getD k gm0).tp then ((if (R3.setM k fun m => { m with tp := tp }).state = 2 then (R3.setM k fun m => { m with tp := tp }) else (R3.setM k fun m => { m with tp := tp }).prepareR).setM k fun m => { m with joined := true }).readyF else R3).l.length) ?_ ?_
  · rintro _ z ⟨L6, o6, h6, k6, hk6⟩
    generalize (if fr = true ∨ R3.state = 2 ∨ tp ≠ (R3.l.getD k gm0).tp then ((if (R3.setM k fun m => { m with tp := tp }).state = 2 then (R3.setM k fun m => { m with tp := tp }) else (R3.setM k fun m => { m with tp := tp }).prepareR).setM k fun m => { m with joined := true }).readyF else R3) = R6 at *
    obtain ⟨q6, z1, -, z3⟩ := h6.mem hk6
    have z4 := z3 0 (by omega) 1
    simp only [h6.ld, gC, List.getElem?_cons_succ, List.getElem?_cons_zero, z1, z4, gmC, eql_n]
    by_cases hs : R6.state = 2
    · simp only [hs, decide_true, if_true]
      exact ⟨⟨_, _, h6, k6⟩, by trivial⟩
    · simp only [hs, decide_false, if_false, h6.ld, gC, List.getElem?_cons_succ, List.getElem?_cons_zero]
      exact ⟨trivial, ⟨_, _, h6, k6⟩, by trivial⟩
  · intro K67 hK67
    refine Join.of (fun xs z => z = y1 ∧ xs = [.lit (.bool (decide (fr = true ∨ R3.state = 2 ∨ tp ≠ (R3.l.getD k gm0).tp)))]) ?_ ?_
    rotate_left
    · intro K70 hK70
      cases hf : fr with
      | true =>
        simp only
        exact hK70 _ _ ⟨rfl, by simp [hf]⟩
      | false =>
        have h3 := hm1.st (htv3 hf)
        obtain ⟨q3, z1, -, z3⟩ := h3.mem hk3
        have z4 := z3 1 (by omega) 1
        simp only [h3.ld, gC, List.getElem?_cons_succ, List.getElem?_cons_zero, eql_n]
        by_cases hs : R3.state = 2
        · simp only [hs, decide_true]
          exact hK70 _ _ ⟨rfl, by simp [hs]⟩
        · simp only [hs, decide_false, h3.ld, gC, List.getElem?_cons_succ, List.getElem?_cons_zero, z1, z4, gmC]
          refine (same50 tp (R3.l.getD k gm0).tp y1 (by omega)).mono ?_
          rintro _ z ⟨rfl, rfl⟩
          simp only [vUn]
          exact hK70 _ _ ⟨rfl, by simp [hs, hf]⟩
    rintro _ z ⟨rfl, rfl⟩
    simp only [List.headD_cons]
    by_cases hc : fr = true ∨ R3.state = 2 ∨ tp ≠ (R3.l.getD k gm0).tp
    · rw [if_pos hc] at hK67
      rw [decide_eq_true hc]
      obtain ⟨q4, w1, y4, h4, kk4, st4⟩ := hm1.tp tp
      simp only [hm1.ld, gC, List.getElem?_cons_succ, List.getElem?_cons_zero, w1]
      refine st4 _ ?_
      have k5 := k4.trans kk4
      have hb4 : Bd (K + 2) (R3.setM k fun m => { m with tp := tp }) := hb3.setM (fun m => { m with tp := tp }) (fun m hm => ⟨hm.1, hm.2.1, htp⟩)
      have hk4 : k < (R3.setM k fun m => { m with tp := tp }).l.length := by unfold GG.setM; rw [List.length_set]; exact hk3
      generalize (R3.setM k fun m => { m with tp := tp }) = R4 at *
      refine Join.of (fun _ v => ∃ Lv' o', RSt v r (if R4.state = 2 then R4 else R4.prepareR) Lv' (rowL topC 2 al) o' ∧ Kept s v r Lv Lv') ?_ ?_
      rotate_left
      · intro K92 hK92
        simp only [h4.ld, gC, List.getElem?_cons_succ, List.getElem?_cons_zero, neq_i3]
        by_cases hs : R4.state = 2
        · simp only [hs, decide_true, Bool.not_true]
          exact hK92 _ _ ⟨_, _, by rw [if_pos hs]; exact h4, k5⟩
        · simp only [hs, decide_false, Bool.not_false]
          refine (prepare51 h4 hb4.plen).mono ?_
          rintro _ v ⟨L5, h5, k6⟩
          exact hK92 _ _ ⟨_, _, by rw [if_neg hs]; exact h5, k5.trans k6⟩
      rintro _ v ⟨L5, o5, h5, k6⟩
      have hb5 : Bd (K + 2) (if R4.state = 2 then R4 else R4.prepareR) := by
        split
        · exact hb4
        · exact hb4.prepareR
      have hk5 : k < (if R4.state = 2 then R4 else R4.prepareR).l.length := by
        split
        · exact hk4
        · show k < (R4.l.map _).length
          rw [List.length_map]; exact hk4
      generalize (if R4.state = 2 then R4 else R4.prepareR) = R5 at *
      obtain ⟨q6, v1, v2, v3, v4, v5⟩ := h5.mput (i := k) hk5 (j := 3) (by omega) (v := .lit (.bool true)) (hc_bool _) (ho_bool _) { (R5.l.getD k gm0) with joined := true } rfl
      simp only [h5.ld, gC, List.getElem?_cons_succ, List.getElem?_cons_zero, v1]
      refine v5 _ ?_
      have hb6 : Bd (K + 2) (R5.setM k fun m => { m with joined := true }) := hb5.setM (fun m => { m with joined := true }) (fun m hm => hm)
      change RSt v2 r (R5.setM k fun m => { m with joined := true }) L5 (rowL topC 2 al) o5 at v3
      have hk6 : k < (R5.setM k fun m => { m with joined := true }).readyF.l.length := by rw [readyF_len]; unfold GG.setM; rw [List.length_set]; exact hk5
      generalize (R5.setM k fun m => { m with joined := true }) = R6 at *
      exact readyF_k v3 hb6 (Q := fun _ _ => True) fun w L7 o7 h7 k7 => hK67 _ _ ⟨_, _, h7, (k6.trans v4).trans k7, hk6⟩
    · rw [if_neg hc] at hK67
      rw [decide_eq_false hc]
      have hf : fr = false := by cases fr; rfl; exact absurd (.inl rfl) hc
      simp only
      exact hK67 _ _ ⟨_, _, hm1.st (htv3 hf), k4, hk3⟩
end
end Go.Proofs.YtkcgokkgefgcjaaGreatDoor.AS
end
section
namespace Go.Proofs.YtkcgokkgefgcjaaGreatDoor.AS
open Go.Proofs.YtkcgokkgefgcjaaGreatDoor.H Go.Proofs.YtkcgokkgefgcjaaGreatDoor.G0
set_option linter.unusedVariables false
set_option linter.unusedSimpArgs false
set_option maxRecDepth 100000
theorem newBad6 {se rb gen : Int} {round : Bool} (h : ¬ (1 ≤ se ∧ se ≤ 1000000 ∧ 1 ≤ rb ∧ rb ≤ 1000000 ∧ 0 ≤ gen ∧ gen ≤ 1099511627776)) (s : HS) :
    HC Tryz.prog 6 [.lit (.int .i64 se), .lit (.int .i64 rb), .lit (.int .i64 gen), .lit (.bool round)] s (fun v t => t = s ∧ v = .tup [.lit (.pointer none), .lit (.int .i64 1)]) := by
  refine HC6 ?_
  unfold c6
  refine Join.of (fun xs t => t = s ∧ xs = [.lit (.bool true)]) ?_ ?_
  rotate_left
  · intro K1 hK1
    simp only [lss_n, gtr_n, bindO]
    by_cases h1 : se < 1
    · simp only [h1, decide_true, hcond]; exact hK1 _ _ ⟨rfl, rfl⟩
    simp only [h1, decide_false, hcond]
    by_cases h2 : 1000000 < se
    · simp only [h2, decide_true]; exact hK1 _ _ ⟨rfl, rfl⟩
    simp only [h2, decide_false]
    by_cases h3 : rb < 1
    · simp only [h3, decide_true]; exact hK1 _ _ ⟨rfl, rfl⟩
    simp only [h3, decide_false]
    by_cases h4 : 1000000 < rb
    · simp only [h4, decide_true]; exact hK1 _ _ ⟨rfl, rfl⟩
    simp only [h4, decide_false]
    by_cases h5 : gen < 0
    · simp only [h5, decide_true]; exact hK1 _ _ ⟨rfl, rfl⟩
    simp only [h5, decide_false]
    have h6 : 1099511627776 < gen := by omega
    simp only [h6, decide_true]
    exact hK1 _ _ ⟨rfl, rfl⟩
  rintro _ t ⟨rfl, rfl⟩
  simp only [List.headD_cons, hcond]
  exact ⟨trivial, trivial⟩
theorem newBad7 {se rb gen : Int} {round : Bool} (h : ¬ (1 ≤ se ∧ se ≤ 1000000 ∧ 1 ≤ rb ∧ rb ≤ 1000000 ∧ 0 ≤ gen ∧ gen ≤ 1099511627776)) (s : HS) :
    HC Tryz.prog 7 [.lit (.int .i64 se), .lit (.int .i64 rb), .lit (.int .i64 gen), .lit (.bool round)] s (fun v t => t = s ∧ v = .tup [.lit (.pointer none), .lit (.int .i64 1)]) := by
  refine HC7 ?_
  unfold c7
  refine Join.of (fun xs t => t = s ∧ xs = [.lit (.bool true)]) ?_ ?_
  rotate_left
  · intro K1 hK1
    simp only [lss_n, gtr_n, bindO]
    by_cases h1 : se < 1
    · simp only [h1, decide_true, hcond]; exact hK1 _ _ ⟨rfl, rfl⟩
    simp only [h1, decide_false, hcond]
    by_cases h2 : 1000000 < se
    · simp only [h2, decide_true]; exact hK1 _ _ ⟨rfl, rfl⟩
    simp only [h2, decide_false]
    by_cases h3 : rb < 1
    · simp only [h3, decide_true]; exact hK1 _ _ ⟨rfl, rfl⟩
    simp only [h3, decide_false]
    by_cases h4 : 1000000 < rb
    · simp only [h4, decide_true]; exact hK1 _ _ ⟨rfl, rfl⟩
    simp only [h4, decide_false]
    by_cases h5 : gen < 0
    · simp only [h5, decide_true]; exact hK1 _ _ ⟨rfl, rfl⟩
    simp only [h5, decide_false]
    have h6 : 1099511627776 < gen := by omega
    simp only [h6, decide_true]
    exact hK1 _ _ ⟨rfl, rfl⟩
  rintro _ t ⟨rfl, rfl⟩
  simp only [List.headD_cons, hcond]
  exact ⟨trivial, trivial⟩
end Go.Proofs.YtkcgokkgefgcjaaGreatDoor.AS
end
section
namespace Go.Proofs.YtkcgokkgefgcjaaGreatDoor.AS
open Go.Proofs.YtkcgokkgefgcjaaGreatDoor.H Go.Proofs.YtkcgokkgefgcjaaGreatDoor.G0
set_option linter.unusedVariables false
set_option linter.unusedSimpArgs false
set_option maxRecDepth 100000
/-- The two tell the same. -/
structure Sim (g r : GG) : Prop where
  session : g.session = r.session
  rebalance : g.rebalance = r.rebalance
  round : g.round = r.round
  state : g.state = r.state
  gen : g.gen = r.gen
  given : g.given = r.given
  now : g.now = r.now
  all : g.all = r.all
  l : g.l = r.l
  since : g.state = 2 ∨ g.state = 3 → g.since = r.since
  shares : r.shares = if 3 ≤ g.state then g.shares else []
theorem filter_len {α : Type} (p : α → Bool) (l : List α) : (l.filter p).length < l.length ↔ (l.any fun x => !p x) = true := by
  induction l with
  | nil => simp
  | cons x l ih =>
    have := List.length_filter_le p l
    rw [List.filter_cons, List.any_cons]
    cases p x
    · simp; omega
    · simp
theorem kindP2 (R : GG) : kindP R 2 = fun m => m.synced := by funext m; simp [kindP]
theorem kindP3 (R : GG) : kindP R 3 = fun m => decide (R.now - m.heard ≤ R.session) := by funext m; simp [kindP]
section
variable {g r : GG}
theorem Sim.empty (h : Sim g r) : Sim (g.enter 1) r.emptyR :=
  ⟨h.session, h.rebalance, h.round, rfl, h.gen, h.given, h.now, h.all, h.l, (by simp [GG.enter]), by simp [GG.enter, GG.emptyR]⟩
theorem Sim.prep (h : Sim g r) (hl : g.l ≠ []) : Sim g.prepares r.prepareR := by
  unfold GG.prepares
  rw [if_neg hl]
  exact ⟨h.session, h.rebalance, h.round, rfl, h.gen, h.given, h.now, h.all, by simp [GG.enter, GG.prepareR, h.l], fun _ => h.now, by simp [GG.enter, GG.prepareR]⟩
theorem Sim.prepares (h : Sim g r) : Sim g.prepares r.againR := by
  by_cases hl : g.l = []
  · unfold GG.prepares GG.againR
    rw [← h.l, if_pos hl, if_pos hl]
    exact h.empty
  · have h1 := h.prep hl
    unfold GG.againR
    rw [← h.l, if_neg hl]
    exact h1
theorem Sim.keep (h : Sim g r) (p q : GM → Bool) (hpq : ∀ m, q m = !p m) : Sim (g.outs p) (r.keep q) := by
  refine ⟨h.session, h.rebalance, h.round, h.state, h.gen, h.given, h.now, h.all, ?_, h.since, h.shares⟩
  show g.l.filter _ = r.l.filter _
  rw [h.l]
  congr 1
  funext m
  rw [hpq]
theorem Sim.forms1 (h : Sim g r) : Sim g.forms1 r.formR := by
  have hk := h.keep (fun m => !m.joined) (fun m => m.joined) (fun m => by simp)
  unfold GG.forms1 GG.formR
  simp only
  generalize g.outs (fun m => !m.joined) = g1 at *
  generalize r.keep (fun m => m.joined) = r1 at *
  rw [← hk.l]
  split
  · exact hk.empty
  · exact ⟨hk.session, hk.rebalance, hk.round, rfl, by simp [hk.gen], hk.given, hk.now, hk.all, rfl, fun _ => hk.now, by simp [hk.round, hk.all]⟩
theorem sim_goes1 (h : Sim g r) (hst : g.state = 1 ∨ g.state = 2 ∨ g.state = 3 ∨ g.state = 4) (hnil : g.state = 1 → g.l = []) : Sim g.goes1 r.timeR1 := by
  have hk := h.keep (fun m => decide (g.session < g.now - m.heard)) (kindP r 3) (fun m => by
    rw [kindP3, h.session, h.now]
    by_cases hh : r.session < r.now - m.heard
    · simp [hh]
    · simp [hh]; omega)
  have hany : (g.any fun m => decide (g.session < g.now - m.heard)) = decide ((r.keep (kindP r 3)).l.length < r.l.length) := by
    rw [← hk.l, ← h.l]
    show g.l.any _ = decide ((g.l.filter _).length < g.l.length)
    rw [Bool.eq_iff_iff, decide_eq_true_iff, filter_len]
    simp
  unfold GG.goes1 GG.timeR1
  simp only
  rw [hany]
  have hsum : decide ((r.keep (kindP r 3)).l.length < r.l.length) = true → ¬ g.state = 1 := fun hh he => by
    have := hnil he
    rw [h.l] at this
    simp [GG.keep, this] at hh
  have hst2 : (g.outs fun m => decide (g.session < g.now - m.heard)).state = g.state := rfl
  have hrs : r.state = g.state := h.state.symm
  rw [hrs]
  generalize decide ((r.keep (kindP r 3)).l.length < r.l.length) = out at *
  generalize (g.outs fun m => decide (g.session < g.now - m.heard)) = g2 at *
  generalize r.keep (kindP r 3) = r2 at *
  obtain ⟨g3, hg3⟩ : ∃ g3, (if (out && !decide (g2.state = 2)) = true then g2.prepares else g2) = g3 := ⟨_, rfl⟩
  obtain ⟨r3, hr3⟩ : ∃ r3, (if (out && (decide (g.state = 3) || decide (g.state = 4))) = true then r2.againR else r2) = r3 := ⟨_, rfl⟩
  have h3 : Sim g3 r3 := by
    rw [← hg3, ← hr3, hst2]
    cases out with
    | false => simpa using hk
    | true =>
      have := hsum rfl
      have e : (!decide (g.state = 2)) = (decide (g.state = 3) || decide (g.state = 4)) := by
        rcases hst with h | h | h | h <;> simp [h] at this ⊢
      simp only [Bool.true_and, e]
      split
      · exact hk.prepares
      · exact hk
  rw [hg3, hr3]
  clear hg3 hr3
  unfold GG.timeR1b
  rw [← h3.state, ← h3.l, ← h3.rebalance, ← h3.now]
  by_cases h1 : g3.state = 2
  · by_cases h2 : g3.l = []
    · simp only [h1, h2, and_self, if_true]
      have : (g3.enter 1).forms = g3.enter 1 := by unfold GG.forms; rw [if_neg]; simp [GG.enter]
      rw [this]
      exact h3.empty
    · simp only [h1, h2, and_false, if_false, if_true]
      unfold GG.forms GG.over
      rw [h3.since (.inl h1)]
      simp only [h1, true_and]
      split
      · exact h3.forms1
      · exact h3
  · simp only [h1, false_and, if_false]
    have : g3.forms = g3 := by unfold GG.forms; rw [if_neg]; simp [h1]
    rw [this]
    exact h3
theorem sim_goes2 (h : Sim g r) : Sim g.goes2 r.timeR2 := by
  have hk := h.keep (fun m => !m.synced) (kindP r 2) (fun m => by rw [kindP2]; simp)
  have hany : (g.any fun m => !m.synced) = true ↔ ((r.keep (kindP r 2)).l.length < r.l.length) := by
    rw [← hk.l, ← h.l]
    show g.l.any _ = true ↔ ((g.l.filter _).length < g.l.length)
    rw [filter_len]
    simp
  unfold GG.goes2 GG.timeR2 GG.over
  rw [← h.state, ← h.rebalance, ← h.now]
  by_cases h1 : g.state = 3
  · rw [h.since (.inr h1)]
    simp only [h1, true_and, decide_eq_true_eq]
    by_cases h2 : g.rebalance ≤ g.now - r.since
    · simp only [h2, true_and, if_true, hany]
      split
      · exact hk.prepares
      · rename_i hn
        have hn' : ¬ (g.any fun m => !m.synced) = true := fun e => hn (hany.1 e)
        have e : r.keep (kindP r 2) = r := by
          unfold GG.keep
          have : r.l.filter (kindP r 2) = r.l := by
            rw [List.filter_eq_self]
            intro m hm
            rw [kindP2]
            rw [← h.l] at hm
            unfold GG.any at hn'
            simp only [List.any_eq_true, not_exists, not_and, Bool.not_eq_true', Bool.not_eq_false] at hn'
            simpa using hn' m hm
          rw [this]
        rw [e]; exact h
    · simp only [h2, false_and, if_false]
      exact h
  · simp only [h1, false_and, if_false]
    exact h
theorem Sim.setNow (h : Sim g r) (n : Int) : Sim { g with now := max g.now n } { r with now := max r.now n } :=
  ⟨h.session, h.rebalance, h.round, h.state, h.gen, h.given, by show max _ _ = max _ _; rw [h.now], h.all, h.l, h.since, h.shares⟩
theorem sim_time (h : Sim g r) (hst : St g) (n : Int) : Sim (g.goes n) (r.timeR n) :=
  sim_goes2 (sim_goes1 (h.setNow n) hst.rng fun e => hst.one.1 e)
theorem sim_tick (h : Sim g r) (hst : St g) (al : List Top) (n : Int) : Sim (g.tick al n) (r.tickR al n) :=
  sim_time (g := { g with all := al }) (r := { r with all := al }) ⟨h.session, h.rebalance, h.round, h.state, h.gen, h.given, h.now, rfl, h.l, h.since, h.shares⟩ ⟨hst.one, hst.rng⟩ n
theorem Sim.at_ (h : Sim g r) (id : By) : g.at_ id = r.at_ id := by unfold GG.at_; rw [h.l]
theorem Sim.fence (h : Sim g r) (id : By) (gen : Int) : g.fenceE id gen = r.fenceR id gen := by
  unfold GG.fenceE GG.fenceR
  rw [h.at_ id, h.gen] <;> rfl
/-- One member is changed. -/
theorem Sim.setM (h : Sim g r) (i : Nat) (f f' : GM → GM) (hf : ∀ m, f m = f' m) : Sim (g.updAt i f) (r.setM i f') := by
  have : f = f' := funext hf
  subst this
  refine ⟨h.session, h.rebalance, h.round, h.state, h.gen, h.given, h.now, h.all, ?_, h.since, h.shares⟩
  show g.l.set _ _ = r.l.set _ _
  rw [h.l]
theorem upd_at {id : By} {i : Nat} (hi : g.at_ id = some i) (f : GM → GM) : g.upd id f = g.updAt i f := by
  unfold GG.upd
  rw [hi]
  rfl
theorem sim_beat (h : Sim g r) (hst : St g) (id : By) (gen n : Int) : Sim (g.heard id gen n).1 (r.beatR id gen n).1 ∧ (g.heard id gen n).2 = (r.beatR id gen n).2 := by
  have h1 := sim_time h hst n
  unfold GG.heard GG.beatR GG.fenceE
  generalize g.goes n = g1 at *
  generalize r.timeR n = r1 at *
  simp only
  rw [← h1.at_ id, ← h1.gen, ← h1.state, ← h1.now]
  cases hi : g1.at_ id with
  | none => exact ⟨h1, rfl⟩
  | some i =>
    by_cases he : gen = g1.gen
    · simp only [he, if_true]
      rw [upd_at hi]
      exact ⟨h1.setM i _ _ fun m => rfl, trivial⟩
    · simp only [he, if_false]
      exact ⟨h1, rfl⟩
theorem at_set {i : Nat} {f : GM → GM} (hf : ∀ m, (f m).id = m.id) (hi : i < g.l.length) (id : By) : (g.updAt i f).at_ id = g.at_ id :=
  at_ids (updAt_ids g i f hf hi) id
theorem at_le {id : By} {i : Nat} (hi : g.at_ id = some i) : i < g.l.length := (List.findIdx?_eq_some_iff_getElem.1 (show g.l.findIdx? _ = some i from hi)).1
theorem sim_sync {n : Int} (h : Sim g r) (hst : St g) (hq : St (g.goes n)) (id : By) (gen : Int) : Sim (g.sync id gen n).1 (r.syncR id gen n).1 ∧ (g.sync id gen n).2 = (r.syncR id gen n).2 := by
  have h1 := sim_time h hst n
  unfold GG.sync GG.heard GG.syncR GG.fenceE
  generalize g.goes n = g1 at *
  generalize r.timeR n = r1 at *
  simp only
  rw [← h1.at_ id, ← h1.gen, ← h1.state, ← h1.now]
  cases hi : g1.at_ id with
  | none => exact ⟨h1, rfl⟩
  | some i =>
    have hlt := at_le hi
    by_cases he : gen = g1.gen
    · simp only [he, if_true]
      rw [upd_at hi]
      by_cases h2 : g1.state = 2
      · simp only [h2, if_true, show ¬ ((14 : Int) = 0) from by decide, if_false]
        exact ⟨h1.setM i _ _ fun m => rfl, trivial⟩
      · simp only [h2, if_false, if_true]
        have h3 := h1.setM i (fun m => { m with heard := g1.now }) (fun m => { m with heard := g1.now }) fun m => rfl
        rw [upd_at (i := i) (by rw [at_set (by intro m; rfl) hlt]; exact hi)]
        have h4 := h3.setM i (fun m => { m with synced := true }) (fun m => { m with synced := true }) fun m => rfl
        have hs : 3 ≤ g1.state := by
          have := hq.rng
          have h5 : g1.state ≠ 1 := fun e => by rw [hq.one.1 e] at hlt; exact absurd hlt (Nat.not_lt_zero _)
          omega
        refine ⟨?_, ?_⟩
        · unfold GG.syncR2
          rw [← h4.l, ← h4.state]
          by_cases hc : ((g1.updAt i fun m => { m with heard := g1.now }).updAt i fun m => { m with synced := true }).state = 3 ∧ ((g1.updAt i fun m => { m with heard := g1.now }).updAt i fun m => { m with synced := true }).l.all (·.synced) = true
          · rw [if_pos hc, if_pos ⟨hc.2, hc.1⟩]
            refine ⟨h4.session, h4.rebalance, h4.round, rfl, h4.gen, h4.given, h4.now, h4.all, rfl, fun e => ?_, ?_⟩
            · rcases e with e | e <;> exact absurd (show (4 : Int) = _ from e) (by decide)
            · have := h4.shares
              rw [if_pos (by show 3 ≤ g1.state; exact hs)] at this
              exact Eq.trans this (if_pos (show (3 : Int) ≤ 4 by decide)).symm
          · rw [if_neg hc, if_neg (fun x => hc ⟨x.2, x.1⟩)]
            exact h4
        · have := h1.shares
          rw [if_pos hs] at this
          rw [this]
          rfl
    · simp only [he, if_false]
      exact ⟨h1, rfl⟩
/-- Who is told by its id goes alone. -/
theorem outs_one {id : By} {l : List GM} (hn : (l.map GM.id).Nodup) {i : Nat} (hi : l.findIdx? (fun m => decide (m.id = id)) = some i) : l.filter (fun m => !decide (m.id = id)) = l.take i ++ l.drop (i + 1) := by
  obtain ⟨hlt, h1, h2⟩ := List.findIdx?_eq_some_iff_getElem.1 hi
  have e : l = l.take i ++ l[i] :: l.drop (i + 1) := by rw [← List.drop_eq_getElem_cons hlt, List.take_append_drop]
  have hid : l[i].id = id := by simpa using h1
  rw [e] at hn
  rw [List.map_append, List.map_cons, List.nodup_append] at hn
  obtain ⟨-, n2, n3⟩ := hn
  rw [List.nodup_cons] at n2
  conv => lhs; rw [e]
  rw [List.filter_append, List.filter_cons, if_neg (by simp [hid])]
  congr 1
  · rw [List.filter_eq_self]
    intro m hm
    have := n3 m.id (List.mem_map_of_mem hm) l[i].id List.mem_cons_self
    rw [hid] at this
    simpa using this
  · rw [List.filter_eq_self]
    intro m hm
    have := n2.1
    rw [hid] at this
    have h4 : m.id ≠ id := fun e => this (by rw [← e]; exact List.mem_map_of_mem hm)
    simpa using h4
theorem Sim.ready (h : Sim g r) (h2 : g.state = 2) (ho : g.over = false) : Sim g.forms r.readyF := by
  unfold GG.forms GG.readyF
  rw [ho, ← h.l, Bool.or_false]
  simp only [h2, true_and]
  split
  · exact h.forms1
  · exact h
theorem over_prepares (hR : 1 ≤ g.rebalance) (hl : g.l ≠ []) : g.prepares.over = false ∧ g.prepares.state = 2 := by
  unfold GG.prepares
  rw [if_neg hl]
  refine ⟨?_, rfl⟩
  show decide (g.rebalance ≤ g.now - g.now) = false
  rw [decide_eq_false_iff_not]
  omega
theorem quiet_over (hq : Quiet g) (h2 : g.state = 2) : g.over = false := by
  have := hq.two h2
  cases ho : g.over with
  | false => rfl
  | true => rw [ho, Bool.or_true] at this; exact absurd rfl this
theorem sim_leave (h : Sim g r) (hst : St g) {al : List Top} {n : Int} (hR : 1 ≤ (g.tick al n).rebalance) (hq : Quiet (g.tick al n)) (hN : Nm (g.tick al n)) (id : By) : Sim (g.leave id al n).1 (r.leaveR id al n).1 ∧ (g.leave id al n).2 = (r.leaveR id al n).2 := by
  have h1 := sim_tick h hst al n
  unfold GG.leave GG.leaveR
  generalize g.tick al n = g1 at *
  generalize r.tickR al n = r1 at *
  simp only
  rw [← h1.at_ id]
  cases hi : g1.at_ id with
  | none => exact ⟨h1, rfl⟩
  | some i =>
    simp only
    refine ⟨?_, trivial⟩
    have he : ({ r1 with l := r1.l.take i ++ r1.l.drop (i + 1) } : GG) = r1.keep fun m => !decide (m.id = id) := by
      unfold GG.keep
      rw [outs_one (by rw [← h1.l]; exact hN.nd) (by rw [← h1.l]; exact hi)]
    rw [he]
    have h2 := h1.keep (fun m => decide (m.id = id)) (fun m => !decide (m.id = id)) fun m => rfl
    have hov : g1.state = 2 → (g1.outs fun m => decide (m.id = id)).over = false := fun e => (quiet_over hq e : g1.over = false)
    have hs2 : (g1.outs fun m => decide (m.id = id)).state = g1.state := rfl
    have hR2 : 1 ≤ (g1.outs fun m => decide (m.id = id)).rebalance := hR
    generalize (g1.outs fun m => decide (m.id = id)) = g2 at *
    generalize (r1.keep fun m => !decide (m.id = id)) = r2 at *
    unfold GG.leaveR2
    rw [← h2.l, ← h2.state]
    by_cases hl : g2.l = []
    · rw [if_pos (.inr hl), if_pos hl]
      have e : g2.prepares = g2.enter 1 := by unfold GG.prepares; rw [if_pos hl]
      rw [e]
      have : (g2.enter 1).forms = g2.enter 1 := by unfold GG.forms; rw [if_neg]; simp [GG.enter]
      rw [this]
      exact h2.empty
    · rw [if_neg hl]
      by_cases hs : g2.state = 2
      · rw [if_neg (by simp [hs, hl]), if_pos hs]
        exact h2.ready hs (hov (by rw [← hs2]; exact hs))
      · rw [if_pos (.inl hs), if_neg hs]
        obtain ⟨o1, o2⟩ := over_prepares hR2 hl
        exact (h2.prep hl).ready o2 o1
theorem setM_eq (r : GG) (i : Nat) (f : GM → GM) : r.setM i f = r.updAt i f := rfl
theorem formR_ids (hj : r.l.all (·.joined) = true) : ids r.formR = ids r := by
  have hk : (r.keep fun m => m.joined).l = r.l := List.filter_eq_self.2 fun m hm => List.all_eq_true.1 hj m hm
  unfold GG.formR ids
  simp only
  split
  · show (r.keep fun m => m.joined).l.map _ = _
    rw [hk]
  · show (List.map _ (r.keep fun m => m.joined).l).map _ = _
    rw [List.map_map, hk]
    rfl
theorem readyF_ids : ids r.readyF = ids r := by
  unfold GG.readyF
  split
  · rename_i hj
    exact formR_ids hj
  · rfl
theorem joinR3_ids {k : Nat} {fresh : Bool} {tp : List By} (hk : k < r.l.length) : ids (r.joinR3 k fresh tp) = ids r := by
  unfold GG.joinR3
  simp only
  have e1 : ids (r.setM k fun m => { m with heard := r.now }) = ids r := by rw [setM_eq]; exact updAt_ids r k _ (fun m => rfl) hk
  have l1 : (r.setM k fun m => { m with heard := r.now }).l.length = r.l.length := by rw [setM_eq]; exact updAt_len r k _
  generalize (r.setM k fun m => { m with heard := r.now }) = r3 at *
  split
  · have e2 : ids (r3.setM k fun m => { m with tp := tp }) = ids r3 := by rw [setM_eq]; exact updAt_ids r3 k _ (fun m => rfl) (by omega)
    have l2 : (r3.setM k fun m => { m with tp := tp }).l.length = r3.l.length := by rw [setM_eq]; exact updAt_len r3 k _
    generalize (r3.setM k fun m => { m with tp := tp }) = r4 at *
    have e3 : ids (if r4.state = 2 then r4 else r4.prepareR) = ids r4 := by
      split
      · rfl
      · unfold ids GG.prepareR
        simp [List.map_map, Function.comp_def]
    have l3 : (if r4.state = 2 then r4 else r4.prepareR).l.length = r4.l.length := by
      split
      · rfl
      · simp [GG.prepareR]
    generalize (if r4.state = 2 then r4 else r4.prepareR) = r5 at *
    rw [readyF_ids, ← e1, ← e2, ← e3]
    rw [setM_eq]
    exact updAt_ids r5 k _ (fun m => rfl) (by omega)
  · exact e1
theorem sim_join3 (h : Sim g r) (hR : 1 ≤ g.rebalance) (hov : g.state = 2 → g.over = false) {k : Nat} (hk : k < g.l.length) (fresh : Bool) (tp : List By) : Sim (g.join3 k fresh tp) (r.joinR3 k fresh tp) := by
  unfold GG.join3 GG.joinR3
  simp only
  have h3 := h.setM k (fun m => { m with heard := g.now }) (fun m => { m with heard := r.now }) (fun m => by rw [h.now])
  have hk3 : k < (g.updAt k fun m => { m with heard := g.now }).l.length := by rw [updAt_len]; exact hk
  have ho3 : (g.updAt k fun m => { m with heard := g.now }).state = 2 → (g.updAt k fun m => { m with heard := g.now }).over = false := hov
  have hR3 : 1 ≤ (g.updAt k fun m => { m with heard := g.now }).rebalance := hR
  generalize (g.updAt k fun m => { m with heard := g.now }) = g3 at *
  generalize (r.setM k fun m => { m with heard := r.now }) = r3 at *
  have hc : (fresh = true ∨ g3.state = 2 ∨ (g3.l.getD k gm0).tp ≠ tp) ↔ (fresh = true ∨ r3.state = 2 ∨ tp ≠ (r3.l.getD k gm0).tp) := by
    rw [h3.state, h3.l]
    constructor
    · rintro (h | h | h)
      · exact .inl h
      · exact .inr (.inl h)
      · exact .inr (.inr (Ne.symm h))
    · rintro (h | h | h)
      · exact .inl h
      · exact .inr (.inl h)
      · exact .inr (.inr (Ne.symm h))
  by_cases hc1 : fresh = true ∨ g3.state = 2 ∨ (g3.l.getD k gm0).tp ≠ tp
  · rw [if_pos hc1, if_pos (hc.1 hc1)]
    have h4 := h3.setM k (fun m => { m with tp := tp }) (fun m => { m with tp := tp }) (fun m => rfl)
    have hk4 : k < (g3.updAt k fun m => { m with tp := tp }).l.length := by rw [updAt_len]; exact hk3
    have ho4 : (g3.updAt k fun m => { m with tp := tp }).state = 2 → (g3.updAt k fun m => { m with tp := tp }).over = false := ho3
    have hR4 : 1 ≤ (g3.updAt k fun m => { m with tp := tp }).rebalance := hR3
    generalize (g3.updAt k fun m => { m with tp := tp }) = g4 at *
    generalize (r3.setM k fun m => { m with tp := tp }) = r4 at *
    have hne : g4.l ≠ [] := fun e => by rw [e] at hk4; exact absurd hk4 (Nat.not_lt_zero _)
    have h5 : Sim (if g4.state = 2 then g4 else g4.prepares) (if r4.state = 2 then r4 else r4.prepareR) ∧ (if g4.state = 2 then g4 else g4.prepares).state = 2 ∧ (if g4.state = 2 then g4 else g4.prepares).over = false := by
      rw [← h4.state]
      by_cases hs : g4.state = 2
      · simp only [hs, if_true]
        exact ⟨h4, trivial, ho4 hs⟩
      · simp only [hs, if_false]
        obtain ⟨o1, o2⟩ := over_prepares hR4 hne
        exact ⟨h4.prep hne, o2, o1⟩
    generalize (if g4.state = 2 then g4 else g4.prepares) = g5 at *
    generalize (if r4.state = 2 then r4 else r4.prepareR) = r5 at *
    exact (h5.1.setM k (fun m => { m with joined := true }) (fun m => { m with joined := true }) (fun m => rfl)).ready h5.2.1 h5.2.2
  · rw [if_neg hc1, if_neg (fun x => hc1 (hc.2 x))]
    exact h3
theorem Sim.join2 (h : Sim g r) (id : By) : Sim (g.join2 id) (r.join2 id) := by
  unfold GG.join2
  split
  · refine ⟨h.session, h.rebalance, h.round, h.state, h.gen, by show g.given + 1 = r.given + 1; rw [h.given], h.now, h.all, ?_, h.since, h.shares⟩
    show g.l ++ [_] = r.l ++ [_]
    unfold GG.nm
    rw [h.l, h.given]
  · exact h
theorem sim_join (h : Sim g r) (hst : St g) {al : List Top} {n : Int} (hR : 1 ≤ (g.tick al n).rebalance) (hq : Quiet (g.tick al n)) (id : By) (tp : List By) : Sim (g.join id tp al n).1 (r.joinR id tp al n).1 ∧ (g.join id tp al n).2 = (r.joinR id tp al n).2 := by
  have h1 := sim_tick h hst al n
  unfold GG.join GG.joinR GG.join1
  generalize g.tick al n = g1 at *
  generalize r.tickR al n = r1 at *
  simp only
  rw [← h1.l, ← h1.at_ id]
  by_cases c1 : 30 < tp.length
  · rw [if_pos c1, if_pos c1]; exact ⟨h1, rfl⟩
  rw [if_neg c1, if_neg c1]
  by_cases c2 : id = [] ∧ 20 ≤ g1.l.length
  · rw [if_pos c2, if_pos c2]; exact ⟨h1, rfl⟩
  rw [if_neg c2, if_neg c2]
  by_cases c3 : id ≠ [] ∧ g1.at_ id = none
  · rw [if_pos c3, if_pos c3]; exact ⟨h1, rfl⟩
  rw [if_neg c3, if_neg c3]
  have hI : g1.joinI id = r1.joinI id := by unfold GG.joinI; rw [h1.l, h1.at_ id]
  have hk := joinI_lt g1 id c3
  obtain ⟨j1, j2, j3, j4, j5, j6, j7, j8⟩ := join2_gen g1 id
  have h2 := h1.join2 id
  have hov : (g1.join2 id).state = 2 → (g1.join2 id).over = false := fun e => by
    unfold GG.over
    rw [j4, j7, j8]
    exact quiet_over hq (by rw [← j6]; exact e)
  have h6 := sim_join3 h2 (by rw [j4]; exact hR) hov hk (decide (id = [])) tp
  have hids : ids ((r1.join2 id).joinR3 (r1.joinI id) (decide (id = [])) tp) = ids (r1.join2 id) := joinR3_ids (by rw [← hI, ← h2.l]; exact hk)
  have hnm : (((r1.join2 id).joinR3 (r1.joinI id) (decide (id = [])) tp).l.getD (r1.joinI id) gm0).id = g1.nm id := by
    have e1 : ∀ (G : GG) (i : Nat), (G.l.getD i gm0).id = (ids G).getD i [] := fun G i => by
      unfold ids
      rw [List.getD, List.getD, List.getElem?_map]
      cases G.l[i]? <;> rfl
    rw [e1, hids, ← e1, ← h2.l, ← hI]
    unfold GG.joinI GG.join2
    by_cases hid : id = []
    · rw [if_pos hid, if_pos hid]
      show ((g1.l ++ [_]).getD g1.l.length gm0).id = _
      rw [List.getD, List.getElem?_append_right (Nat.le_refl _), Nat.sub_self]
      rfl
    · rw [if_neg hid, if_neg hid]
      unfold GG.nm
      rw [if_neg hid]
      cases hi : g1.at_ id with
      | none => exact absurd ⟨hid, hi⟩ c3
      | some i =>
        obtain ⟨hlt, x1, -⟩ := List.findIdx?_eq_some_iff_getElem.1 (show g1.l.findIdx? _ = some i from hi)
        rw [Option.getD_some, getD_get gm0 _ hlt]
        simpa using x1
  refine ⟨by rw [← hI]; exact h6, ?_⟩
  rw [hnm, ← hI, ← h6.state, ← h6.gen]
theorem Sim.sharesA (h : Sim g r) : r.shares = g.sharesA := by
  rw [h.shares]
  unfold GG.sharesA
  by_cases hs : g.state < 3
  · rw [if_pos hs, if_neg (by omega)]
  · rw [if_neg hs, if_pos (by omega)]
theorem sim_refl (h : g.shares = []) : Sim g g := ⟨rfl, rfl, rfl, rfl, rfl, rfl, rfl, rfl, rfl, fun _ => rfl, by rw [h]; split <;> rfl⟩
theorem Sim.ids (h : Sim g r) : ids g = ids r := by unfold AS.ids; rw [h.l]
end
end Go.Proofs.YtkcgokkgefgcjaaGreatDoor.AS
end
section
namespace Go.Proofs.YtkcgokkgefgcjaaGreatDoor.AS
open Go.Proofs.YtkcgokkgefgcjaaGreatDoor.H Go.Proofs.YtkcgokkgefgcjaaGreatDoor.G0
set_option linter.unusedVariables false
set_option linter.unusedSimpArgs false
set_option maxRecDepth 100000
/-- A group whose topics are told by a value that stays. -/
def IsA (b s : HS) (g : Nat) (G : GG) (all : HV) : Prop := ∃ b' A ps o, HS.le b b' ∧ RowV b' 2 all G.all.length (rows topC G.all) ∧ GSt b' s g G all A ps o
section
variable {b s : HS} {g : Nat} {G : GG} {all : HV} {K : Nat}
theorem IsA.is (h : IsA b s g G all) : IsG b s g G := by
  obtain ⟨b', A, ps, o, h1, h2, h3⟩ := h
  exact ⟨b', all, A, ps, o, h1, h2, h3⟩
theorem GSt.isA {b' : HS} {A : HV} {ps : List (Nat × GM)} {o : Option DD} (h : GSt b' s g G all A ps o) (hle : HS.le b b') (hall : RowV b' 2 all G.all.length (rows topC G.all)) : IsA b s g G all := ⟨b', A, ps, o, hle, hall, h⟩
theorem heardA (h : IsA b s g G all) (hb : Bd K G) (hk : K + 1 ≤ 1000000) (id : By) (gen : Int) {now : Int} (hn : now ≤ 1125899906842624) :
    HC Tryz.prog 41 [.ptr g 0, strV id, .lit (.int .i64 gen), .lit (.int .i64 now)] s (fun v t => ∃ b' A ps o, HS.le b b' ∧ RowV b' 2 all (G.heard id gen now).1.all.length (rows topC (G.heard id gen now).1.all) ∧ GSt b' t g (G.heard id gen now).1 all A ps o ∧ v = .tup [if (G.heard id gen now).2 = 0 then ptrAt ps ((G.heard id gen now).1.at_ id) else .lit (.pointer none), .lit (.int .i64 (G.heard id gen now).2)]) := by
  obtain ⟨b1, A, ps, o, h1, h2, h3⟩ := h
  refine (heard33 h3 h2 hb hk id gen hn).mono ?_
  rintro v t ⟨A2, ps2, o2, k3, k4⟩
  exact ⟨b1, A2, ps2, o2, h1, by rw [heard_all]; exact h2, k3, k4⟩
theorem beatA (h : IsA b s g G all) (hb : Bd K G) (hk : K + 1 ≤ 1000000) (id : By) (gen : Int) {now : Int} (hn : now ≤ 1125899906842624) :
    HC Tryz.prog 16 [.ptr g 0, strV id, .lit (.int .i64 gen), .lit (.int .i64 now)] s (fun v t => IsA b t g (G.heard id gen now).1 all ∧ v = .lit (.int .i64 (G.heard id gen now).2)) := by
  refine HC16 ?_
  unfold c16
  refine (heardA h hb hk id gen hn).mono ?_
  rintro v t ⟨b1, A, ps, o, h1, h2, h3, rfl⟩
  simp only [vExtract, List.getElem?_cons_succ, List.getElem?_cons_zero, bindO]
  exact ⟨h3.isA h1 h2, trivial⟩
theorem syncA (h : IsA b s g G all) (hb : Bd K G) (hk : K + 1 ≤ 1000000) (id : By) (gen : Int) {now : Int} (hn : now ≤ 1125899906842624) :
    HC Tryz.prog 14 [.ptr g 0, strV id, .lit (.int .i64 gen), .lit (.int .i64 now)] s (fun v t => IsA b t g (G.sync id gen now).1 all ∧ ∃ o' : Option (List Slot), v = .tup [rowV slC 2 o', .lit (.int .i64 (G.sync id gen now).2.2)] ∧ o'.getD [] = (G.sync id gen now).2.1) := by
  refine HC14 ?_
  unfold c14
  refine (heardA h hb hk id gen hn).mono ?_
  rintro v t ⟨b1, A, ps, o, h1, h2, h3, rfl⟩
  simp only [vExtract, List.getElem?_cons_succ, List.getElem?_cons_zero, bindO, neq_24]
  have hb1 := hb.heard (id := id) (gen := gen) hk hn
  have h0 := heard0 (G := G) (id := id) (gen := gen) (now := now)
  unfold GG.sync
  generalize G.heard id gen now = r at *
  obtain ⟨G1, e⟩ := r
  simp only at *
  by_cases he : e = 0
  · subst he
    obtain ⟨i, hi⟩ := h0 rfl
    have hlt := at_lt h3 hi
    have hm := getD_memD p0 hlt
    simp only [decide_true, Bool.not_true, hcond, if_true, hi, ptrAt, hvNil, hvFld]
    refine store1 (h3.mem _ hm).2.1 (by simp [gmC]) (hc_bool _) (ho_bool _) rfl ?_
    have h4 := h3.updId hi (fun m => { m with synced := true })
    rw [show (gmC (ps.getD i p0).2).set 4 (.lit (.bool true)) = gmC { (ps.getD i p0).2 with synced := true } from rfl]
    have hb2 : Bd (K + 1) (G1.upd id fun m => { m with synced := true }) := hb1.upd _ _ fun m hm => hb1.mem m hm
    have ha2 := upd_all G1 id (fun m => { m with synced := true })
    generalize (G1.upd id fun m => { m with synced := true }) = G2 at *
    generalize (ps.set i _) = ps2 at *
    generalize t.set _ _ = t2 at *
    clear h3
    refine Join.of (fun xs u => GSt b1 u g (if G2.state = 3 ∧ G2.l.all (·.synced) = true then G2.enter 4 else G2) all A ps2 o) ?_ ?_
    · rintro _ u h5
      simp only [h5.ld, gC, List.getElem?_cons_succ, List.getElem?_cons_zero]
      have esh : (if G2.state = 3 ∧ G2.l.all (·.synced) = true then G2.enter 4 else G2).shares = G2.shares := by split <;> rfl
      have eall : (if G2.state = 3 ∧ G2.l.all (·.synced) = true then G2.enter 4 else G2).all = G2.all := by split <;> rfl
      have hosh := h4.sh
      have hbsh := hb2.sh
      rw [← hosh] at hbsh
      refine (of21 o id u (by omega) (fun d hd => by have := hbsh.2 d hd; omega)).mono ?_
      rintro v w ⟨rfl, o', rfl, ho'⟩
      refine ⟨h5.isA h1 (by rw [eall, ha2]; exact h2), o', rfl, ?_⟩
      rw [ho', hosh]
    · intro K9 hK9
      refine Join.of (fun xs u => u = t2 ∧ xs = [.lit (.bool (decide (G2.state = 3) && G2.l.all (·.synced)))]) ?_ ?_
      · rintro _ u ⟨rfl, rfl⟩
        simp only [List.headD_cons]
        cases hc : decide (G2.state = 3) && G2.l.all (·.synced) with
        | true =>
          simp only [Bool.and_eq_true, decide_eq_true_eq] at hc
          simp only [hcond]
          refine (enter36 h4 4).mono ?_
          rintro v w ⟨h5, -⟩
          refine hK9 _ _ ?_
          rw [if_pos hc]
          exact h5
        | false =>
          simp only [hcond]
          refine hK9 _ _ ?_
          rw [if_neg (fun hh => by rw [decide_eq_true hh.1, hh.2] at hc; cases hc)]
          exact h4
      · intro K12 hK12
        simp only [h4.ld, gC, List.getElem?_cons_succ, List.getElem?_cons_zero, eql_n]
        by_cases hs : G2.state = 3
        · simp only [hs, decide_true]
          refine (each34 h4 (hb2.pslen h4) (·.synced) (fn := 43) (fcaps := []) (fun u hu x hx K hK => ?_)).mono ?_
          · have h5 := h4.mono hu
            simp only [hcall, hite_eq, plain35, if_true, List.append_nil]
            refine HC43 ?_
            unfold c43
            simp only [hvNil, hvFld, bindO, h5.ldm hx, gmC, List.getElem?_cons_succ, List.getElem?_cons_zero]
            exact hK
          · rintro v w ⟨rfl, rfl⟩
            exact hK12 _ _ ⟨rfl, by rw [hs]; rfl⟩
        · simp only [hs, decide_false]
          exact hK12 _ _ ⟨rfl, by simp [hs]⟩
  · simp only [he, decide_false, Bool.not_false, hcond, if_false]
    exact ⟨h3.isA h1 h2, none, rfl, rfl⟩
end
/-- Neither is touched by the other. -/
def Apart (all Lv : HV) : Prop := ∀ q, accId all = some q → accId Lv ≠ some q
structure BothAt (b w : HS) (g r : Nat) (G R : GG) (all Lv Av : HV) (o : Option DD) : Prop where
  is : IsA b w g G all
  st : RSt b r R Lv Av o
  ap : Apart all Lv
def Both (w : HS) (g r : Nat) (G R : GG) : Prop := ∃ b all Lv Av o, BothAt b w g r G R all Lv Av o
section
variable {b w t : HS} {g r : Nat} {G R : GG} {all Lv Av : HV} {o : Option DD}
theorem RSt.le {s t : HS} (h : RSt s r R Lv Av o) (hle : HS.le s t) : RSt t r R Lv Av o := ⟨hle _ _ h.at_, h.l.le hle, h.lr, h.av, h.sh⟩
theorem BothAt.doc (h : BothAt b w g r G R all Lv Av o) : RSt w r R Lv Av o := h.st.le h.is.is.le
/-- The document's group has turned. -/
theorem BothAt.kept {R' : GG} {Lv' Av' : HV} {o' : Option DD} (h : BothAt b w g r G R all Lv Av o) (hr' : RSt t r R' Lv' Av' o') (hk : Kept w t r Lv Lv') : Both t g r G R' := by
  obtain ⟨⟨b', A, ps, og, h1, h2, h3⟩, hr, hap⟩ := h
  have hb'r := h1 _ _ hr.at_
  have hLvb : ∀ q, accId Lv = some q → ∃ ob, b' q = some ob := fun q hq => by
    rcases hr.l with ⟨rfl, -⟩ | ⟨q0, f, rfl, e2, -⟩
    · cases hq
    · cases hq
      exact ⟨_, h1 _ _ e2⟩
  obtain ⟨b2, hb2⟩ : ∃ b2 : HS, b2 = fun k => if k = r ∨ accId Lv' = some k then t k else if accId Lv = some k then none else b' k := ⟨_, rfl⟩
  have own : ∀ k ob, b' k = none → w k = some ob → b2 k = none ∧ t k = some ob ∧ accId Lv' ≠ some k := fun k ob hk1 hk2 => by
    have n1 : k ≠ r := fun e => by rw [e, hb'r] at hk1; cases hk1
    have n2 : accId Lv ≠ some k := fun e => by obtain ⟨ob', e'⟩ := hLvb k e; rw [e'] at hk1; cases hk1
    obtain ⟨k1, k2⟩ := hk k ob n1 n2 hk2
    refine ⟨?_, k1, k2⟩
    rw [hb2]
    show (if k = r ∨ accId Lv' = some k then t k else if accId Lv = some k then none else b' k) = none
    rw [if_neg (by rintro (e | e); exact n1 e; exact k2 e), if_neg n2]
    exact hk1
  have old : ∀ k ob, b' k = some ob → k ≠ r → accId Lv ≠ some k → b2 k = some ob ∧ t k = some ob ∧ accId Lv' ≠ some k := fun k ob hk1 n1 n2 => by
    obtain ⟨k1, k2⟩ := hk k ob n1 n2 (h3.le _ _ hk1)
    refine ⟨?_, k1, k2⟩
    rw [hb2]
    show (if k = r ∨ accId Lv' = some k then t k else if accId Lv = some k then none else b' k) = some ob
    rw [if_neg (by rintro (e | e); exact n1 e; exact k2 e), if_neg n2]
    exact hk1
  have hle : HS.le b2 t := fun k ob hk2 => by
    rw [hb2] at hk2
    simp only at hk2
    split at hk2
    · exact hk2
    · split at hk2
      · cases hk2
      · rename_i n1 n2
        exact (hk k ob (fun e => n1 (.inl e)) n2 (h3.le _ _ hk2)).1
  have hall : RowV b2 2 all G.all.length (rows topC G.all) ∧ Apart all Lv' := by
    rcases h2 with ⟨rfl, e2⟩ | ⟨q, f, rfl, e2, e3⟩
    · exact ⟨.inl ⟨rfl, e2⟩, fun q hq => by cases hq⟩
    · have n1 : q ≠ r := fun e => by
        rw [e, hb'r] at e2
        injection e2 with e2
        injection e2 with e2
        rw [← e2] at e3
        have : (gC R Lv Av o).length = 11 := rfl
        omega
      obtain ⟨k1, -, k3⟩ := old q _ e2 n1 (hap q rfl)
      exact ⟨.inr ⟨q, f, rfl, k1, e3⟩, fun q' hq' => by cases hq'; exact k3⟩
  have hst : RSt b2 r R' Lv' Av' o' := by
    refine ⟨?_, hr'.l.keepq fun q ob hq hs => ?_, hr'.lr, hr'.av, hr'.sh⟩
    · rw [hb2]
      show (if r = r ∨ accId Lv' = some r then t r else if accId Lv = some r then none else b' r) = _
      rw [if_pos (.inl rfl)]
      exact hr'.at_
    · rw [hb2]
      show (if q = r ∨ accId Lv' = some q then t q else if accId Lv = some q then none else b' q) = _
      rw [if_pos (.inr hq)]
      exact hs
  refine ⟨b2, all, Lv', Av', o', ⟨b2, A, ps, og, le_refl' b2, hall.1, ?_⟩, hst, hall.2⟩
  obtain ⟨g1, g2, -⟩ := own g _ h3.free h3.at_
  refine ⟨hle, g1, g2, ?_, h3.accg, fun p hp => ?_, h3.nodup, h3.l, h3.sh⟩
  · rcases h3.acc with e | ⟨q, f, rest, k, e1, e2, e3, e4⟩
    · exact .inl e
    · obtain ⟨k1, k2, -⟩ := own q _ e1 e3
      exact .inr ⟨q, f, rest, k, k1, e2, k2, e4⟩
  · obtain ⟨m1, m2, m3⟩ := h3.mem p hp
    obtain ⟨k1, k2, -⟩ := own _ _ m1 m2
    exact ⟨k1, k2, m3⟩
/-- The program's group has turned, and knows topics. -/
theorem BothAt.turned {G' : GG} (h : BothAt b w g r G R all Lv Av o) (hg : IsG b t g G') (hl : G'.all.length = 2) : ∃ all', BothAt b t g r G' R all' Lv Av o := by
  obtain ⟨b', all', A, ps, og, h1, h2, h3⟩ := hg
  refine ⟨all', ⟨b', A, ps, og, h1, h2, h3⟩, h.st, fun q hq hq' => ?_⟩
  rcases h2 with ⟨rfl, -⟩ | ⟨q0, f, rfl, e2, e3⟩
  · cases hq
  · cases hq
    rcases h.st.l with ⟨rfl, -⟩ | ⟨q1, f1, rfl, e4, e5⟩
    · cases hq'
    · cases hq'
      rw [h1 _ _ e4] at e2
      injection e2 with e2
      injection e2 with e2
      rw [e2] at e5
      omega
theorem IsA.mono (h : IsA b w g G all) (hle : HS.le w t) : IsA b t g G all := by
  obtain ⟨b', A, ps, og, h1, h2, h3⟩ := h
  exact ⟨b', A, ps, og, h1, h2, h3.mono hle⟩
theorem Both.mono (h : Both w g r G R) (hle : HS.le w t) : Both t g r G R := by
  obtain ⟨b, all, Lv, Av, o, h1, h2, h3⟩ := h
  exact ⟨b, all, Lv, Av, o, h1.mono hle, h2, h3⟩
theorem le_setNone {b : HS} {k : Nat} (ob : HObj) (hk : b k = none) : HS.le b (b.set k ob) := fun j o' hj => by
  rw [set_ne _ _ (fun e => by rw [e, hk] at hj; cases hj)]
  exact hj
/-- Something new, elsewhere, lies still. -/
theorem BothAt.grow (h : BothAt b w g r G R all Lv Av o) {k : Nat} (hk : w k = none) (ob : HObj) : BothAt (b.set k ob) (w.set k ob) g r G R all Lv Av o := by
  obtain ⟨⟨b', A, ps, og, h1, h2, h3⟩, hr, hap⟩ := h
  have hb'k : b' k = none := HS.le_none h3.le hk
  have hbk : b k = none := HS.le_none h1 hb'k
  exact ⟨⟨b'.set k ob, A, ps, og, le_setBoth h1 k ob, h2.le (le_setNone ob hb'k), h3.grow hk ob⟩, hr.le (le_setNone ob hbk), hap⟩
end
/-- The document's clock is in bounds. -/
def SB (R : GG) : Prop := (0 ≤ R.since ∧ R.since ≤ 1125899906842624) ∧ (0 ≤ R.now ∧ R.now ≤ 1125899906842624)
section
variable {R : GG}
theorem SB.emptyR (h : SB R) : SB R.emptyR := h
theorem SB.keep (h : SB R) (p : GM → Bool) : SB (R.keep p) := h
theorem SB.prepareR (h : SB R) : SB R.prepareR := ⟨h.2, h.2⟩
theorem SB.againR (h : SB R) : SB R.againR := by unfold GG.againR; split; exact h; exact h.prepareR
theorem SB.formR (h : SB R) : SB R.formR := by
  unfold GG.formR
  simp only
  split
  · exact h
  · exact ⟨h.2, h.2⟩
theorem SB.timeR1b (h : SB R) : SB R.timeR1b := by
  unfold GG.timeR1b
  split
  · split
    · exact h
    · split
      · exact h.formR
      · exact h
  · exact h
theorem SB.timeR {n : Int} (h : SB R) (hn : n ≤ 1125899906842624) : SB (R.timeR n) := by
  have h0 : SB { R with now := max R.now n } := ⟨h.1, by have := h.2; show 0 ≤ max R.now n ∧ max R.now n ≤ _; omega⟩
  unfold GG.timeR
  generalize ({ R with now := max R.now n } : GG) = R0 at *
  have h1 : SB R0.timeR1 := by
    unfold GG.timeR1
    refine SB.timeR1b ?_
    split
    · exact SB.againR (h0.keep _)
    · exact h0
  unfold GG.timeR2
  split
  · split
    · exact SB.againR (h1.keep _)
    · exact h1
  · exact h1
theorem SB.tickR {n : Int} {al : List Top} (h : SB R) (hn : n ≤ 1125899906842624) : SB (R.tickR al n) := SB.timeR (R := { R with all := al }) h hn
theorem SB.setM (h : SB R) (i : Nat) (f : GM → GM) : SB (R.setM i f) := h
theorem SB.readyF (h : SB R) : SB R.readyF := by unfold GG.readyF; split; exact h.formR; exact h
theorem SB.beatR {n : Int} (h : SB R) (hn : n ≤ 1125899906842624) (id : By) (gen : Int) : SB (R.beatR id gen n).1 := by
  have h1 := h.timeR hn
  unfold GG.beatR
  split
  · exact h1
  · split <;> exact h1
theorem SB.syncR {n : Int} (h : SB R) (hn : n ≤ 1125899906842624) (id : By) (gen : Int) : SB (R.syncR id gen n).1 := by
  have h1 := h.timeR hn
  unfold GG.syncR
  split
  · exact h1
  · split
    · split
      · exact h1
      · show SB (GG.syncR2 _)
        unfold GG.syncR2
        split <;> exact h1
    · exact h1
theorem SB.leaveR {n : Int} (h : SB R) (hn : n ≤ 1125899906842624) (id : By) (al : List Top) : SB (R.leaveR id al n).1 := by
  have h1 : SB (R.tickR al n) := h.tickR hn
  unfold GG.leaveR
  split
  · exact h1
  · rename_i i hi
    have h2 : SB { R.tickR al n with l := (R.tickR al n).l.take i ++ (R.tickR al n).l.drop (i + 1) } := h1
    show SB (GG.leaveR2 { R.tickR al n with l := (R.tickR al n).l.take i ++ (R.tickR al n).l.drop (i + 1) })
    generalize ({ R.tickR al n with l := (R.tickR al n).l.take i ++ (R.tickR al n).l.drop (i + 1) } : GG) = R2 at *
    unfold GG.leaveR2
    split
    · exact h2
    · refine SB.readyF ?_
      split
      · exact h2
      · exact h2.prepareR
theorem SB.join2 (h : SB R) (id : By) : SB (R.join2 id) := by unfold GG.join2; split <;> exact h
theorem SB.joinR3 (h : SB R) (k : Nat) (f : Bool) (tp : List By) : SB (R.joinR3 k f tp) := by
  unfold GG.joinR3
  simp only
  split
  · refine SB.readyF (SB.setM ?_ _ _)
    split
    · exact h
    · exact ⟨h.2, h.2⟩
  · exact h
theorem SB.joinR {n : Int} (h : SB R) (hn : n ≤ 1125899906842624) (id : By) (tp : List By) (al : List Top) : SB (R.joinR id tp al n).1 := by
  have h1 : SB (R.tickR al n) := h.tickR hn
  unfold GG.joinR
  simp only
  split
  · exact h1
  · split
    · exact h1
    · split
      · exact h1
      · exact (h1.join2 id).joinR3 _ _ _
theorem sim_bd {G : GG} {K : Nat} (h : Sim G R) (hb : Bd K G) (hs : SB R) : Bd K R :=
  ⟨hs.2, hs.1, by rw [← h.l]; exact hb.mem, by rw [← h.gen]; exact hb.gen, by rw [← h.l]; exact hb.len, by rw [← h.all]; exact hb.all, by
    rw [h.shares]
    split
    · exact hb.sh
    · exact ⟨Nat.zero_le _, fun d hd => by cases hd⟩, hb.k⟩
end
end Go.Proofs.YtkcgokkgefgcjaaGreatDoor.AS
end
section
namespace Go.Proofs.YtkcgokkgefgcjaaGreatDoor.AS
open Go.Proofs.YtkcgokkgefgcjaaGreatDoor.H Go.Proofs.YtkcgokkgefgcjaaGreatDoor.G0
set_option linter.unusedVariables false
set_option linter.unusedSimpArgs false
set_option maxRecDepth 100000
/-- What holds between steps. -/
structure PI (w : HS) (g r : Nat) (se rb : Int) (i : Nat) (n : Int) (G R : GG) : Prop where
  both : Both w g r G R
  sim : Sim G R
  run : Run se rb i G.now G
  le : G.now ≤ n
  sb : SB R
theorem PI.stay {w t : HS} {g r : Nat} {se rb : Int} {i : Nat} {n : Int} {G R : GG} (h : PI w g r se rb i n G R) (hle : HS.le w t) (hi : 3 * (i + 1) ≤ 1000000) : PI t g r se rb (i + 1) n G R :=
  ⟨h.both.mono hle, h.sim, ⟨h.run.q, h.run.se, h.run.rb, h.run.nw, by have := h.run.gv; omega, h.run.nm, h.run.bd.mono (by omega) hi⟩, h.le, h.sb⟩
theorem all_tick (G : GG) (al : List Top) (n : Int) : (G.tick al n).all = al := goes_all _ n
theorem all_join (G : GG) (id : By) (tp : List By) (al : List Top) (n : Int) : (G.join id tp al n).1.all = al := by
  have h1 := all_tick G al n
  unfold GG.join GG.join1
  generalize G.tick al n = G1 at *
  split
  · exact h1
  · split
    · exact h1
    · split
      · exact h1
      · show ((G1.join2 id).join3 _ _ _).all = al
        rw [join3_all, join2_all]
        exact h1
theorem all_leave (G : GG) (id : By) (al : List Top) (n : Int) : (G.leave id al n).1.all = al := by
  have h1 := all_tick G al n
  unfold GG.leave
  generalize G.tick al n = G1 at *
  simp only
  split
  · exact h1
  · show (GG.forms _).all = al
    rw [forms_all]
    split
    · rw [prepares_all]; exact h1
    · exact h1
theorem ofD_bd {D : DD} {n : Nat} (h : ∀ d ∈ D, d.2.length ≤ n) (id : By) : (ofD D id).length ≤ n := by
  unfold ofD
  cases hf : D.find? _ with
  | none => exact Nat.zero_le _
  | some d => exact h d (List.mem_of_find?_eq_some hf)
section
variable {w : HS} {g r : Nat} {se rb : Int} {i : Nat} {n : Int} {G R : GG}
theorem does9 (h : PI w g r se rb i n G R) (hse : 0 ≤ se) (hrb : 1 ≤ rb) (hi : i < 80) (hn : n ≤ 1125899906842624) (x : Step) {tp : List By} (hx : x.topics = some tp) (htp : tp.length ≤ 1000) (parts : Int) :
    HC Tryz.prog 9 [.ptr g 0, .ptr r 0, .agg (stepC x), .lit (.int .i64 parts), .lit (.int .i64 n)] w (fun v t => v = .lit (.bool true) ∧ ∃ G' R', PI t g r se rb (i + 1) n G' R') := by
  obtain ⟨⟨b, all, Lv, Av, o, hB⟩, hS, hrun, hle, hsb⟩ := h
  refine HC9 ?_
  unfold c9
  refine hbox_intro (hc_agg _) fun X hX => ?_
  have hB1 := hB.grow hX (.cells (stepC x))
  have hst := hrun.q.st
  have hb := hrun.bd
  have hR : 1 ≤ G.rebalance := by rw [hrun.rb]; exact hrb
  have hbR := sim_bd hS hb hsb
  have hgv := hrun.gv
  have hgv0 := hrun.nm.gv
  have hbX : (b.set X (.cells (stepC x))) X = some (.cells (stepC x)) := set_at _ _ _
  have lX : ∀ u k, HS.le (b.set X (.cells (stepC x))) u → vLoad u (.ptr X (0 + k)) 1 false = (stepC x)[k]? := fun u k hu => by rw [Nat.zero_add]; exact load_cell k 1 (hu _ _ hbX)
  have lX0 := fun k => lX _ k hB1.is.is.le
  obtain ⟨hmj, hrun'⟩ := run_step (x := x) (al := allL parts) (n' := n) hrun hse hrb (by omega) (allL_len parts) hle hn (by rw [hx]; exact Nat.le_trans htp (by omega))
  have htick := quiet_tick (G := G) (al := allL parts) (n := n) hR hst
  have hntick := hrun.nm.mv (mv_tick G (allL parts) n)
  have hRt : 1 ≤ (G.tick (allL parts) n).rebalance := by rw [(mv_tick G (allL parts) n).rb]; exact hR
  have hgvt : (R.tickR (allL parts) n).given = R.given := by
    rw [← (sim_tick hS hst (allL parts) n).given, (mv_tick G (allL parts) n).gv, hS.given]
  clear hB
  generalize b.set X (.cells (stepC x)) = b1 at *
  generalize w.set X (.cells (stepC x)) = w1 at *
  refine (all20 parts w1).mono ?_
  rintro _ w2 ⟨rfl, a, c, rfl, ha, -, rfl⟩
  have fin : ∀ (G' R' : GG) (t : HS), stepF G x (allL parts) n = G' → Both t g r G' R' → Sim G' R' → SB R' → PI t g r se rb (i + 1) n G' R' := fun G' R' t e k1 k2 k3 => by
    subst e
    exact ⟨k1, k2, by rw [hrun'.nw]; exact hrun', by rw [hrun'.nw]; exact Int.le_refl _, k3⟩
  have hst9 : PI w2 g r se rb (i + 1) n G R := (PI.stay ⟨⟨_, _, _, _, _, hB1⟩, hS, hrun, hle, hsb⟩ (le_refl' w2) (by omega))
  clear hrun' hmj
  unfold stepF at fin
  simp only [vExtract, List.getElem?_cons_succ, List.getElem?_cons_zero, bindO]
  refine Join.of (fun _ u => ∃ G' R', PI u g r se rb (i + 1) n G' R') ?_ ?_
  · rintro _ u hu
    exact ⟨trivial, hu⟩
  intro K7 hK7
  simp only [vField, lX0, stepC, List.getElem?_cons_succ, List.getElem?_cons_zero, eql_n]
  by_cases h1 : x.kind = 1
  · simp only [h1, if_true] at fin
    simp only [h1, decide_true, hcond, vField, lX0, stepC, List.getElem?_cons_succ, List.getElem?_cons_zero]
    refine (join10 hB1.is.is hb (by omega) ha (allL_len parts) (now := n) hn ⟨hgv0, by omega⟩ x.member x.topics (by rw [hx]; exact Nat.le_trans htp (by omega))).mono ?_
    rintro _ w3 ⟨h3, rfl⟩
    rw [hx] at h3
    simp only [Option.getD_some] at h3
    obtain ⟨all3, hB3⟩ := hB1.turned h3 (by rw [all_join]; rfl)
    have lX3 := fun k => lX _ k hB3.is.is.le
    simp only [vExtract, List.getElem?_cons_succ, List.getElem?_cons_zero, vField, lX3, stepC]
    obtain ⟨s1, s2⟩ := sim_join hS hst hRt htick x.member (x.topics.getD [])
    rw [hx] at s1 s2 fin ⊢
    simp only [Option.getD_some] at s1 s2 fin ⊢
    refine (join17 hB3.doc hbR (by omega) x.member tp (by omega) (allL_len parts) hn (by rw [← hS.given]; exact ⟨hgv0, by omega⟩) hgvt).mono ?_
    rintro _ w4 ⟨⟨Lv', o', h4, k4⟩, rfl⟩
    rw [← s2]
    simp only [vExtract, List.getElem?_cons_succ, List.getElem?_cons_zero, eql_s, eql_n, decide_true, hcond]
    exact ⟨trivial, _, _, fin _ _ _ rfl (hB3.kept h4 k4) s1 (hsb.joinR hn _ _ _)⟩
  simp only [h1, if_false] at fin
  simp only [h1, decide_false, hcond]
  by_cases h2 : x.kind = 2
  · simp only [h2, if_true] at fin
    simp only [h2, decide_true, hcond, vField, lX0, stepC, List.getElem?_cons_succ, List.getElem?_cons_zero]
    refine (syncA hB1.is hb (by omega) x.member x.gen (now := n) hn).mono ?_
    rintro _ w3 ⟨h3, o3, rfl, ho3⟩
    have hB3 : BothAt b1 w3 g r _ R all Lv Av o := ⟨h3, hB1.st, hB1.ap⟩
    have lX3 := fun k => lX _ k hB3.is.is.le
    simp only [vExtract, List.getElem?_cons_succ, List.getElem?_cons_zero, vField, lX3, stepC]
    have hqn : St (G.goes n) := (quiet_goes hR hst).st
    obtain ⟨s1, s2⟩ := sim_sync hS hst hqn x.member x.gen
    refine (sync18 hB3.doc hbR (by omega) x.member x.gen hn).mono ?_
    rintro _ w4 ⟨⟨Lv', o', h4, k4⟩, rfl⟩
    rw [← s2]
    simp only [vExtract, List.getElem?_cons_succ, List.getElem?_cons_zero]
    have hlen : (o3.getD []).length ≤ 9223372036854775807 := by
      rw [ho3]
      rcases sync_len G x.member x.gen n with e | e
      · rw [e]; exact Nat.zero_le _
      · rw [e]
        have := ofD_bd (hb.sync (id := x.member) (gen := x.gen) (by omega) hn).sh.2 x.member
        omega
    obtain ⟨oq, e1, e2⟩ := slV_row (G.sync x.member x.gen n).2.1
    rw [e1]
    refine (same20 o3 oq w4 hlen).mono ?_
    rintro _ w5 ⟨rfl, rfl⟩
    rw [ho3, e2]
    simp only [decide_true, hcond, eql_n]
    exact ⟨trivial, _, _, fin _ _ _ rfl (hB3.kept h4 k4) s1 (hsb.syncR hn _ _)⟩
  simp only [h2, if_false] at fin
  simp only [h2, decide_false]
  by_cases h3 : x.kind = 3
  · simp only [h3, if_true] at fin
    simp only [h3, decide_true, vField, lX0, stepC, List.getElem?_cons_succ, List.getElem?_cons_zero]
    refine (beatA hB1.is hb (by omega) x.member x.gen (now := n) hn).mono ?_
    rintro _ w3 ⟨h3, rfl⟩
    have hB3 : BothAt b1 w3 g r _ R all Lv Av o := ⟨h3, hB1.st, hB1.ap⟩
    have lX3 := fun k => lX _ k hB3.is.is.le
    simp only [lX3, stepC, List.getElem?_cons_succ, List.getElem?_cons_zero, true_and]
    obtain ⟨s1, s2⟩ := sim_beat hS hst x.member x.gen n
    refine (beat20 hB3.doc hbR (by omega) x.member x.gen hn).mono ?_
    rintro _ w4 ⟨⟨Lv', o', h4, k4⟩, rfl⟩
    rw [← s2]
    simp only [eql_n, decide_true]
    exact ⟨trivial, _, _, fin _ _ _ rfl (hB3.kept h4 k4) s1 (hsb.beatR hn _ _)⟩
  simp only [h3, if_false] at fin
  simp only [h3, decide_false]
  by_cases h4 : x.kind = 4
  · simp only [h4, if_true] at fin
    simp only [h4, decide_true, vField, lX0, stepC, List.getElem?_cons_succ, List.getElem?_cons_zero]
    refine (leave21 hB1.is.is hb (by omega) ha (allL_len parts) (now := n) hn x.member).mono ?_
    rintro _ w3 ⟨h3, rfl⟩
    obtain ⟨all3, hB3⟩ := hB1.turned h3 (by rw [all_leave]; rfl)
    have lX3 := fun k => lX _ k hB3.is.is.le
    simp only [lX3, stepC, List.getElem?_cons_succ, List.getElem?_cons_zero, true_and]
    obtain ⟨s1, s2⟩ := sim_leave hS hst hRt htick hntick x.member
    refine (leave22 hB3.doc hbR (by omega) x.member (allL_len parts) hn).mono ?_
    rintro _ w4 ⟨⟨Lv', o', h4, k4⟩, rfl⟩
    rw [← s2]
    simp only [eql_n, decide_true]
    exact ⟨trivial, _, _, fin _ _ _ rfl (hB3.kept h4 k4) s1 (hsb.leaveR hn _ _)⟩
  simp only [h4, if_false] at fin
  simp only [h4, decide_false]
  by_cases h5 : x.kind = 5
  · simp only [h5, decide_true]
    refine (tickI hB1.is.is hb (by omega) ha (allL_len parts) (now := n) hn).mono ?_
    rintro _ w3 h3
    obtain ⟨all3, hB3⟩ := hB1.turned h3 (by rw [all_tick]; rfl)
    refine (tick24 hB3.doc hbR (by omega) (allL_len parts) hn).mono ?_
    rintro _ w4 ⟨Lv', o', h4, k4⟩
    exact hK7 _ _ ⟨_, _, fin _ _ _ rfl (hB3.kept h4 k4) (sim_tick hS hst _ _) (hsb.tickR hn)⟩
  simp only [h5, decide_false]
  by_cases h6 : x.kind = 6
  · simp only [h6, decide_true, vField, lX0, stepC, List.getElem?_cons_succ, List.getElem?_cons_zero]
    refine (fence23 hB1.is.is hb x.member x.gen).mono ?_
    rintro _ w3 ⟨rfl, rfl⟩
    simp only [lX0, stepC, List.getElem?_cons_succ, List.getElem?_cons_zero, true_and]
    refine (fence26 hB1.doc hbR.plen x.member x.gen).mono ?_
    rintro _ w4 ⟨rfl, rfl⟩
    rw [hS.fence]
    simp only [eql_n, decide_true]
    exact ⟨trivial, _, _, hst9⟩
  simp only [h6, decide_false]
  exact hK7 _ _ ⟨_, _, hst9⟩
theorem shows10 (h : PI w g r se rb i n G R) (hi : i ≤ 80) : HC Tryz.prog 10 [.ptr g 0, .ptr r 0] w (fun v t => t = w ∧ v = .lit (.bool true)) := by
  obtain ⟨⟨b, all, Lv, Av, o, hB⟩, hS, hrun, hle, hsb⟩ := h
  have hg := hB.is.is
  have hr := hB.doc
  have hb := hrun.bd
  have hbR := sim_bd hS hb hsb
  refine HC10 ?_
  unfold c10
  simp only [hvNil, hvFld, bindO, hr.ld, gC, List.getElem?_cons_succ, List.getElem?_cons_zero]
  refine (state14 hg).mono ?_
  rintro _ t ⟨rfl, rfl⟩
  simp only [hr.ld, gC, List.getElem?_cons_succ, List.getElem?_cons_zero, true_and, hS.state, eql_n, decide_true, hcond, hvNil, hvFld]
  refine (gen13 hg).mono ?_
  rintro _ t ⟨rfl, rfl⟩
  simp only [hr.ld, gC, List.getElem?_cons_succ, List.getElem?_cons_zero, true_and, hS.gen, eql_n, decide_true, hcond, hvNil, hvFld]
  refine (members11 hg hb).mono ?_
  rintro _ t ⟨rfl, rfl⟩
  refine (members30 hr hbR.plen).mono ?_
  rintro _ t ⟨rfl, rfl⟩
  refine (texts28 (ids G) (ids R) t (by have h1 := hb.len; have h2 := hb.k; unfold ids; rw [List.length_map]; omega)).mono ?_
  rintro _ t ⟨rfl, rfl⟩
  simp only [hS.ids, decide_true, hcond]
  refine (leader26 hg hb).mono ?_
  rintro _ t ⟨rfl, rfl⟩
  refine (leader32 hr).mono ?_
  rintro _ t ⟨rfl, rfl⟩
  have hld : G.leader = R.leader := by unfold GG.leader; rw [hS.l]
  simp only [hld, eql_s, decide_true, hcond, hvNil, hvFld, hr.ld, gC, List.getElem?_cons_succ, List.getElem?_cons_zero]
  refine (shares22 hg hb).mono ?_
  rintro _ t ⟨rfl, rfl⟩
  refine ⟨by first | rfl | (simp only [hr.ld, gC, List.getElem?_cons_succ, List.getElem?_cons_zero]), ?_⟩
  have hbs := hb.sh
  have hsl : ∀ D : DD, D = G.sharesA → D.length ≤ 1000000 ∧ ∀ d ∈ D, d.2.length ≤ 1000000 := fun D e => by
    subst e
    unfold GG.sharesA
    split
    · exact ⟨Nat.zero_le _, fun d hd => by cases hd⟩
    · exact hbs
  obtain ⟨z1, z2⟩ := hsl _ rfl
  refine (same14 (some G.sharesA) o t (by rw [Option.getD_some]; omega) (fun d hd => by have := z2 d hd; omega)).mono ?_
  rintro _ t ⟨rfl, rfl⟩
  rw [hr.sh, hS.sharesA]
  simp
end
end Go.Proofs.YtkcgokkgefgcjaaGreatDoor.AS
end
section
namespace Go.Proofs.YtkcgokkgefgcjaaGreatDoor.AS
open Go.Proofs.YtkcgokkgefgcjaaGreatDoor.H Go.Proofs.YtkcgokkgefgcjaaGreatDoor.G0
set_option linter.unusedVariables false
set_option linter.unusedSimpArgs false
set_option maxRecDepth 100000
theorem both_new {s t u : HS} {g r : Nat} {G R : GG} (h : IsG s t g G) (hr0 : t r = none) (hr : RSt u r R nilV nilV none) (hle : HS.le t u) : Both u g r G R := by
  obtain ⟨b', all, A, ps, o, h1, h2, h3⟩ := h
  refine ⟨ups b' t u, all, nilV, nilV, none, ⟨ups b' t u, A, ps, o, le_refl' _, h2.le (le_ups h3.le), h3.ups hle⟩, ⟨?_, ?_, hr.lr, hr.av, hr.sh⟩, fun q hq hq' => by cases hq'⟩
  · unfold ups
    rw [if_pos hr0]
    exact hr.at_
  · rcases hr.l with e | ⟨q, f, e, -⟩
    · exact .inl e
    · cases e
theorem plays_law (se rb gen : Int) (round : Bool) (parts : Int) (l : List Step) (hz : StIn l) (htp : ∀ x ∈ l, ∃ tp, x.topics = some tp) (s : HS) : HC Tryz.prog 3 [.lit (.int .i64 se), .lit (.int .i64 rb), .lit (.int .i64 gen), .lit (.bool round), .lit (.int .i64 parts), rowL stepC 5 l] s (fun v _ => v = .lit (.bool true)) := by
  refine HC3 ?_
  unfold c3
  refine (small19 l hz s).mono ?_
  rintro _ t ⟨rfl, sm, rfl, hsm⟩
  cases sm with
  | false =>
    simp only [vUn, bindO, Bool.not_false, hcond]
    exact awake8 t
  | true =>
  have hsm := hsm rfl
  simp only [vUn, bindO, Bool.not_true, hcond]
  by_cases hok : 1 ≤ se ∧ se ≤ 1000000 ∧ 1 ≤ rb ∧ rb ≤ 1000000 ∧ 0 ≤ gen ∧ gen ≤ 1099511627776
  · obtain ⟨k1, k2, k3, k4, k5, k6⟩ := hok
    refine (new9 (session := se) (rebalance := rb) (gen := gen) (round := round) ⟨k1, k2⟩ ⟨k3, k4⟩ ⟨k5, k6⟩ t).mono ?_
    rintro _ t1 ⟨g, hg, rfl, h0⟩
    simp only [vExtract, List.getElem?_cons_succ, List.getElem?_cons_zero]
    refine (new7 (session := se) (rebalance := rb) (gen := gen) (round := round) ⟨k1, k2⟩ ⟨k3, k4⟩ ⟨k5, k6⟩ t1).mono ?_
    rintro _ t2 ⟨r, hr, rfl, hr0, hle0⟩
    simp only [vExtract, List.getElem?_cons_succ, List.getElem?_cons_zero]
    have hB := both_new h0 hr hr0 hle0
    refine Join.of (fun xs u => u = t2 ∧ xs = [.lit (.bool false)]) ?_ ?_
    rotate_left
    · intro K14 hK14
      simp only [neq_i3, decide_true, Bool.not_true]
      rw [show vCmp (Tryz.prog.underlying 25) .neq (.ptr g 0) (.lit (.pointer none)) = some (.lit (.bool true)) from rfl, show vCmp (Tryz.prog.underlying 29) .neq (.ptr r 0) (.lit (.pointer none)) = some (.lit (.bool true)) from rfl]
      simp only [neq_b]
      exact hK14 _ _ ⟨rfl, rfl⟩
    rintro _ u ⟨rfl, rfl⟩
    simp only [List.headD_cons]
    rw [show vCmp (Tryz.prog.underlying 29) .eql (.ptr r 0) (.lit (.pointer none)) = some (.lit (.bool false)) from rfl]
    simp only
    have hA : ∀ w, vLenT (Tryz.prog.underlying 22) w (rowL stepC 5 l) = some (.lit (.int .i64 ((l.length : Nat) : Int))) := fun w => rfl
    have i1 := fun i (hi : i < l.length) => idx_rowL stepC_len st0 l .i64 hi
    have hnl := hsm.nl
    refine HLoop.ghost (σ := Nat × Nat) (fun x => [.lit (.int .i64 (x.1 : Int)), .lit (.int .i64 (x.2 : Int))]) (fun x w => x.2 ≤ l.length ∧ x.1 ≤ 30 * x.2 ∧ ∃ G R, PI w g r se rb x.2 x.1 G R) (fun x => l.length - x.2) (0, 0) rfl ⟨Nat.zero_le _, Nat.zero_le _, _, _, hB, sim_refl rfl, ⟨quiet_new, rfl, rfl, rfl, Int.le_refl _, nm_new, Bd.new ⟨k5, k6⟩⟩, Int.le_refl _, ⟨⟨Int.le_refl 0, by show (0 : Int) ≤ _; omega⟩, ⟨Int.le_refl 0, by show (0 : Int) ≤ _; omega⟩⟩⟩ ?_
    rintro ⟨now, i⟩ w K ⟨hi, hnow, G, R, hP⟩ hK
    simp only at hi hnow hP
    simp only [List.headD_cons, List.tail_cons, hA, lss_i]
    by_cases hlt : i < l.length
    · have hmem := getD_memD st0 hlt
      have htl := hsm.tp _ hmem
      obtain ⟨tp, hx⟩ := htp _ hmem
      simp only [hlt, decide_true, i1 i hlt, loadStep]
      generalize l.getD i st0 = x at *
      rw [show vField 4 (.elt (stepC x) 0) = some (.elt (stepC x) 4) from rfl]
      simp only
      rw [show vLoad w (.elt (stepC x) 4) 1 false = some (.lit (.int .i64 x.wait)) from rfl]
      simp only
      refine (round9 (n := 30) (by omega) (by omega) w).mono ?_
      rintro _ w2 ⟨rfl, rfl⟩
      have hr30 : (x.wait % ((30 : Nat) : Int)).toNat < 30 := by omega
      generalize (x.wait % ((30 : Nat) : Int)).toNat = r30 at *
      rw [show vBin .add (.lit (.int .i64 (now : Int))) (.lit (.int .i64 (r30 : Int))) = some (.lit (.int .i64 ((now + r30 : Nat) : Int))) from add_i (a := now) (b := r30) (by omega)]
      simp only
      have hP2 : PI w2 g r se rb i ((now + r30 : Nat) : Int) G R := ⟨hP.both, hP.sim, hP.run, by have := hP.le; omega, hP.sb⟩
      refine Join.of (fun xs w3 => (∃ G' R', PI w3 g r se rb (i + 1) ((now + r30 : Nat) : Int) G' R') ∧ xs = [.lit (.bool false)]) ?_ ?_
      · rintro _ w3 ⟨h3, rfl⟩
        simp only [List.headD_cons, inc_i hlt (by omega)]
        exact hK (now + r30, i + 1) _ _ rfl ⟨hlt, by show now + r30 ≤ 30 * (i + 1); omega, h3⟩ (by show l.length - (i + 1) < l.length - i; omega)
      · intro K35 hK35
        rw [show vBin .quo (.lit (.int .i64 (i : Int))) (.lit (.int .i64 10)) = some (.lit (.int .i64 (IntKind.i64.wrap ((i : Int).tdiv 10)))) from rfl]
        simp only
        generalize IntKind.i64.wrap ((i : Int).tdiv 10) = q
        rw [show vBin .add (.lit (.int .i64 parts)) (.lit (.int .i64 q)) = some (.lit (.int .i64 (IntKind.i64.wrap (parts + q)))) from rfl]
        simp only
        refine (does9 hP2 (by omega) k3 (by omega) (by omega) x hx (by rw [hx] at htl; exact htl) _).mono ?_
        rintro _ w3 ⟨rfl, G', R', h3⟩
        simp only [Bool.not_true]
        refine (shows10 h3 (by omega)).mono ?_
        rintro _ w4 ⟨rfl, rfl⟩
        simp only [Bool.not_true]
        exact hK35 _ _ ⟨⟨_, _, h3⟩, rfl⟩
    · simp only [hlt, decide_false]
      exact awake8 w
  · refine (newBad6 (round := round) hok t).mono ?_
    rintro _ t1 ⟨rfl, rfl⟩
    simp only [vExtract, List.getElem?_cons_succ, List.getElem?_cons_zero]
    refine (newBad7 (round := round) hok t1).mono ?_
    rintro _ t2 ⟨rfl, rfl⟩
    simp only [vExtract, List.getElem?_cons_succ, List.getElem?_cons_zero]
    refine Join.of (fun xs u => u = t2 ∧ xs = [.lit (.bool false)]) ?_ ?_
    rotate_left
    · intro K14 hK14
      simp only [neq_i3, decide_true, Bool.not_true]
      rw [show vCmp (Tryz.prog.underlying 25) .neq (.lit (.pointer none)) (.lit (.pointer none)) = some (.lit (.bool false)) from rfl, show vCmp (Tryz.prog.underlying 29) .neq (.lit (.pointer none)) (.lit (.pointer none)) = some (.lit (.bool false)) from rfl]
      simp only [neq_b]
      exact hK14 _ _ ⟨rfl, rfl⟩
    rintro _ u ⟨rfl, rfl⟩
    simp only [List.headD_cons]
    rw [show vCmp (Tryz.prog.underlying 29) .eql (.lit (.pointer none)) (.lit (.pointer none)) = some (.lit (.bool true)) from rfl]
    exact awake8 u
end Go.Proofs.YtkcgokkgefgcjaaGreatDoor.AS
end
section
set_option linter.unusedVariables false
set_option linter.unusedSimpArgs false
namespace Go.Proofs.YtkcgokkgefgcjaaGreatDoorW.PrintWords
open Go.RowKit
/-- The world is the old one, some orders having been drawn. -/
structure Drawn0 (w w' : World) : Prop where mk :: (out : ∃ n, w' = w.drewN n)
theorem Drawn0.refl (w : World) : Drawn0 w w := ⟨⟨0, rfl⟩⟩
theorem Drawn0.step {w w' : World} (h : Drawn0 w w') (n : Nat) : Drawn0 w (w'.drewN n) := by
  obtain ⟨m, rfl⟩ := h
  exact ⟨⟨m + n, World.drewN_drewN ..⟩⟩
theorem Drawn0.grown {w w' : World} (h : Drawn0 w w') : Grown w w' := by
  obtain ⟨n, rfl⟩ := h
  induction n with
  | zero => exact Grown.refl _
  | succ n ih => rw [← World.drew_drewN]; exact Grown.drew ih
theorem Drawn0.below {w w' : World} (h : Drawn0 w w') : Below w.heap.size w w' := by
  obtain ⟨n, rfl⟩ := h
  induction n with
  | zero => exact Below.refl _ _
  | succ n ih => rw [← World.drew_drewN]; exact ih.drew
def rd (xs : List Int) (i : Int) : Int := xs.getD i.toNat 0
theorem below_alloc {w W : World} (h : Below w.heap.size w W) (o : Obj) : Below w.heap.size w (W.alloc o) := h.alloc h.size o
theorem grown_of_below {w w1 : World} (h : Below w.heap.size w w1) (row : Option Nat) : w.grownBy w1 row := ⟨h.os, h.tape, h.output, h.size, fun i hi _ => h.block i hi⟩
theorem pw_cell_below {w w1 : World} (h : Below w.heap.size w w1) {a : Addr} {v : Value} (hc : w.cell? a = some v) : w1.cell? a = some v := (h.cell (World.block_lt_of_cell? w a hc)).trans hc
def ReadsInt (w : World) (k : IntKind) (A : Option Addr) (n : Nat) (xs : List Int) : Prop :=
  xs.length = n ∧ n ≤ 9223372036854775807 ∧ (0 < n → ∃ ad, A = some ad ∧ ∀ j, j < n → w.cell? (ad.add j) = some (.int k (xs.getD j 0)))
theorem ReadsInt.at_ {w : World} {k : IntKind} {A : Option Addr} {n : Nat} {xs : List Int} (h : ReadsInt w k A n xs) (i : Int) (h0 : 0 ≤ i) (h1 : i < n) : ∃ ad, A = some ad ∧ w.cell? (ad.add i.toNat) = some (.int k (rd xs i)) := by
  obtain ⟨ad, e, hc⟩ := h.2.2 (by omega)
  exact ⟨ad, e, hc _ (by omega)⟩
theorem ReadsInt.below {w w1 : World} {k : IntKind} {A : Option Addr} {n : Nat} {xs : List Int} (h : ReadsInt w k A n xs) (hb : Below w.heap.size w w1) : ReadsInt w1 k A n xs :=
  ⟨h.1, h.2.1, fun hn => by
    obtain ⟨ad, e, hc⟩ := h.2.2 hn
    exact ⟨ad, e, fun j hj => pw_cell_below hb (hc j hj)⟩⟩
theorem own_nil (W : World) (base : Nat) (e : TypeId) (size : Nat) : W.ownsRow base e size (.slice none 0 0) 0 [] := ⟨by simp, .inl ⟨rfl, rfl⟩⟩
theorem own_base {w : World} {base : Nat} {e : TypeId} {size n : Nat} {v : Value} {xs : List Value} (h : w.ownsRow base e size v n xs) (k : Nat) (hk : v.ownBlock = some k) : base ≤ k := by
  rcases h.2 with ⟨rfl, _⟩ | ⟨g, cap, cur, rfl, hb, _⟩
  · simp [Value.ownBlock] at hk
  · have : g = k := by simpa [Value.ownBlock] using hk
    omega
theorem own_lt {w : World} {base : Nat} {e : TypeId} {size n : Nat} {v : Value} {xs : List Value} (h : w.ownsRow base e size v n xs) (k : Nat) (hk : v.ownBlock = some k) : k < w.heap.size := by
  rcases h.2 with ⟨rfl, _⟩ | ⟨g, cap, cur, rfl, hb, hh, _⟩
  · simp [Value.ownBlock] at hk
  · have : g = k := by simpa [Value.ownBlock] using hk
    subst this
    exact (Array.getElem?_eq_some_iff.1 hh).1
theorem pw_own_below {w w1 : World} {base : Nat} {e : TypeId} {size n : Nat} {v : Value} {xs : List Value} (h : w.ownsRow base e size v n xs) (hb : Below w.heap.size w w1) : w1.ownsRow base e size v n xs :=
  h.kept (grown_of_below hb none) (by cases v.ownBlock <;> simp)
/-- What is written is another row: this one lives on. -/
theorem own_other {w w1 : World} {base : Nat} {e : TypeId} {size n : Nat} {v : Value} {xs : List Value} (h : w.ownsRow base e size v n xs) {row : Option Nat} (hg : w.grownBy w1 row) (hne : v.ownBlock = none ∨ v.ownBlock ≠ row) : w1.ownsRow base e size v n xs := h.kept hg hne
section
variable {P : Program} {ops : Array Oper} {rest : List Oper} {o : Oper} {a : Act} {Q : Exit → Act → World → Prop}
end
section
variable {P : Program}
end
section
variable {P : Program} {ops : Array Oper} {rest : List Oper} {o : Oper} {a : Act} {Q : Exit → Act → World → Prop}
end
def bytesOf (s : ByteArray) : List Int := s.data.toList.map fun b => (b.toNat : Int)
/-- Where the first answers, the second answers the same. -/
def LeO {α : Type} (a b : Option α) : Prop := ∀ r, a = some r → b = some r
theorem LeO.refl {α : Type} (a : Option α) : LeO a a := fun _ h => h
theorem LeO.none {α : Type} (b : Option α) : LeO Option.none b := fun _ h => by cases h
theorem LeO.trans {α : Type} {a b c : Option α} (h : LeO a b) (k : LeO b c) : LeO a c := fun r hr => k r (h r hr)
theorem LeO.ite {α : Type} {c : Prop} [Decidable c] {a a' b b' : Option α} (h : LeO a a') (k : LeO b b') : LeO (if c then a else b) (if c then a' else b') := by
  split
  · exact h
  · exact k
theorem LeO.bind {α β : Type} {a a' : Option α} {f f' : α → Option β} (h : LeO a a') (k : ∀ x, LeO (f x) (f' x)) : LeO (a.bind f) (a'.bind f') := by
  intro r hr
  obtain ⟨x, hx, hf⟩ := Option.bind_eq_some_iff.1 hr
  exact Option.bind_eq_some_iff.2 ⟨x, h x hx, k x r hf⟩
theorem LeO.map {α β : Type} {a a' : Option α} (f : α → β) (h : LeO a a') : LeO (a.map f) (a'.map f) := by
  intro r hr
  obtain ⟨x, hx, hf⟩ := Option.map_eq_some_iff.1 hr
  exact Option.map_eq_some_iff.2 ⟨x, h x hx, hf⟩
theorem more_rounds {α : Type} {g : Nat → Option α} (h : ∀ k, LeO (g k) (g (k + 1))) (k : Nat) : ∀ j, LeO (g k) (g (k + j))
  | 0 => LeO.refl _
  | j + 1 => (more_rounds h k j).trans (h (k + j))
theorem at_rounds {α : Type} {g : Nat → Option α} (h : ∀ k, LeO (g k) (g (k + 1))) {k k' : Nat} (hk : k ≤ k') {r : α} (hr : g k = some r) : g k' = some r := by
  have := more_rounds h k (k' - k) r hr
  rwa [Nat.add_sub_cancel' hk] at this
def Reps {α : Type} (R : α → List Value → Prop) (size : Nat) (ps : List α) (cs : List Value) : Prop :=
  cs.length = ps.length * size ∧ ∀ j p, ps[j]? = some p → R p ((cs.drop (j * size)).take size)
theorem Reps.none {α : Type} (R : α → List Value → Prop) (size : Nat) : Reps R size [] [] := ⟨by simp, fun j p h => by simp at h⟩
theorem Reps.snoc {α : Type} {R : α → List Value → Prop} {size : Nat} {ps : List α} {cs c : List Value} {p : α} (h : Reps R size ps cs) (hp : R p c) (hc : c.length = size) : Reps R size (ps ++ [p]) (cs ++ c) := by
  refine ⟨by rw [List.length_append, h.1, hc, List.length_append, List.length_singleton, Nat.add_mul, Nat.one_mul], fun j q hq => ?_⟩
  rcases Nat.lt_or_ge j ps.length with hj | hj
  · rw [List.getElem?_append_left hj] at hq
    have h1 : j * size + size ≤ cs.length := by rw [h.1, ← Nat.succ_mul]; exact Nat.mul_le_mul_right _ hj
    have h2 := h.2 j q hq
    rw [List.drop_append_of_le_length (by omega), List.take_append_of_le_length (by rw [List.length_drop]; omega)]
    exact h2
  · have hj' : j = ps.length := by
      have := (List.getElem?_eq_some_iff.1 hq).1
      rw [List.length_append, List.length_singleton] at this
      omega
    subst hj'
    have hq' : p = q := by simpa using hq
    subst hq'
    rw [← h.1, List.drop_left, ← hc, List.take_length]
    exact hp
theorem Reps.imp_ {α : Type} {R R' : α → List Value → Prop} {size : Nat} {ps : List α} {cs : List Value} (h : Reps R size ps cs) (hR : ∀ p c, R p c → R' p c) : Reps R' size ps cs := ⟨h.1, fun j p hj => hR _ _ (h.2 j p hj)⟩
def ReadsRow {α : Type} (R : α → List Value → Prop) (size : Nat) (w : World) (A : Option Addr) (n : Nat) (ps : List α) : Prop :=
  ps.length = n ∧ n ≤ 9223372036854775807 ∧ (0 < n → ∃ ad, A = some ad ∧ ∀ j p, ps[j]? = some p → ∃ c, c.length = size ∧ R p c ∧ ∀ i u, c[i]? = some u → w.cell? (ad.add (j * size + i)) = some u)
theorem ReadsRow.imp_ {α : Type} {R R' : α → List Value → Prop} {size : Nat} {w w1 : World} {A : Option Addr} {n : Nat} {ps : List α} (h : ReadsRow R size w A n ps) (hb : Below w.heap.size w w1) (hR : ∀ p c, R p c → R' p c) : ReadsRow R' size w1 A n ps :=
  ⟨h.1, h.2.1, fun hn => by
    obtain ⟨ad, e, hc⟩ := h.2.2 hn
    refine ⟨ad, e, fun j p hj => ?_⟩
    obtain ⟨c, hs, hr, hcell⟩ := hc j p hj
    exact ⟨c, hs, hR _ _ hr, fun i u hu => pw_cell_below hb (hcell i u hu)⟩⟩
theorem own_reads_row {α : Type} {R : α → List Value → Prop} {w : World} {base n size : Nat} {e : TypeId} {v : Value} {ps : List α} {cs : List Value} (h : w.ownsRow base e size v n cs) (hR : Reps R size ps cs) (hn : ps.length = n) :
    ∃ A c, v = .slice A n c ∧ ReadsRow R size w A n ps := by
  rcases Nat.eq_zero_or_pos n with h0 | h0
  · rcases h.2 with ⟨rfl, rfl⟩ | ⟨g, cap, cur, rfl, _⟩
    · exact ⟨none, 0, rfl, hn, by omega, fun hp => absurd hp (by omega)⟩
    · exact ⟨_, cap, rfl, hn, by omega, fun hp => absurd hp (by omega)⟩
  · obtain ⟨g, cap, rfl, _, _⟩ := h.form h0
    have hm : n ≤ 9223372036854775807 := by
      rcases h.2 with ⟨_, h1⟩ | ⟨g', cap', cur, he, _, _, h1, h2, _⟩
      · omega
      · simp only [maxLen] at h2
        omega
    refine ⟨_, cap, rfl, hn, hm, fun _ => ⟨_, rfl, fun j p hj => ⟨(cs.drop (j * size)).take size, ?_, hR.2 j p hj, fun i u hu => ?_⟩⟩⟩
    · have hjl := (List.getElem?_eq_some_iff.1 hj).1
      have h1 : j * size + size ≤ cs.length := by rw [hR.1, ← Nat.succ_mul]; exact Nat.mul_le_mul_right _ hjl
      rw [List.length_take, List.length_drop]
      omega
    · refine h.cells (g := g) rfl _ u ?_
      rw [List.getElem?_take] at hu
      split at hu
      · rw [List.getElem?_drop] at hu
        exact hu
      · cases hu
section
variable {P : Program} {ops : Array Oper} {rest : List Oper} {o : Oper} {a : Act} {Q : Exit → Act → World → Prop}
/-- append(v, x), x of several cells; behind 'at_builtin'; the goal's world is 'W.alloc' of the variadic's box. -/
theorem print_append_cells {w0 W : World} (base : Nat) (hgd : o.guard = none) (s x : Operand) (t e : TypeId) (z : Value) (size bytes : Nat)
    (ho : o.op = .call { callee := .builtin .append, args := #[s, x], argTypes := #[t, t] })
    (ht : P.underlying t = some (.slice e)) (hinfo : (P.info? e).map (fun i => (i.zero, i.size, i.bytes)) = some (some z, size, bytes)) (hz : z.cells.size = size) (hs0 : 0 < size) (hb0 : 0 < bytes)
    (v : Value) (n : Nat) (xs ys : List Value) (hs : a.eval s = v) (hx : a.eval x = .slice (some ⟨W.heap.size, 0, none⟩) 1 1) (hys : ys.length = size) (h1 : ∀ u ∈ ys, u.oneCell' = true)
    (HO : W.ownsRow base e size v n xs) (HB : Below base w0 W) (hbase : base ≤ W.heap.size) (hl : (n + 1) * bytes ≤ 140737488355328)
    (h : ∀ v1 w1, w1.ownsRow base e size v1 (n + 1) (xs ++ ys) → Below base w0 w1 → W.grownBy w1 v.ownBlock → (v1.ownBlock = v.ownBlock ∨ ∃ b, v1.ownBlock = some b ∧ W.heap.size ≤ b) → wpList P ops Q rest (a.put o.dst v1) w1) :
    wpList P ops Q (o :: rest) a (W.alloc (.cells ys.toArray e)) := by
  obtain ⟨i0, hi, hzz⟩ := Option.map_eq_some_iff.1 hinfo
  simp only [Prod.mk.injEq] at hzz
  obtain ⟨hz0, hz1, hz2⟩ := hzz
  have hlen : n + 1 ≤ 140737488355328 := Nat.le_trans (Nat.le_mul_of_pos_right _ hb0) hl
  refine wpList_append_own_at (W.alloc (.cells ys.toArray e)) hgd s x t ho base e i0 z size bytes ht hi hz0 hz1 hz2 hz hs0 v n xs hs (HO.alloc _) ⟨W.heap.size, 0, none⟩ 1 1 ys hx (by rw [hys]; simp)
    (by simpa using World.news_of_block (cs := ys.toArray) (t := e) (fr := (0, 0)) (heap_alloc_new W (.cells ys.toArray e))) h1 (by simp only [maxLen]; omega) hl (by simp; omega) ?_
  intro v1 w1 hown hg _ hat
  refine h v1 w1 hown ((HB.alloc hbase _).grown hg (by simp; omega) (own_base HO)) (World.grownBy.trans (World.grownBy_alloc W _ _) hg) ?_
  rcases hat with hat | hat
  · exact .inl hat
  · exact .inr ⟨_, hat, by simp⟩
end
theorem own_ne {w : World} {base : Nat} {e t : TypeId} {size n g : Nat} {v : Value} {xs : List Value} {cs : Array Value} (h : w.ownsRow base e size v n xs) (hg : w.heap[g]? = some (.cells cs t (0, 0))) (hne : e ≠ t) : some g ≠ v.ownBlock := by
  rcases h.2 with ⟨rfl, _⟩ | ⟨g', cap, cur, rfl, _, hh, _⟩
  · simp [Value.ownBlock]
  · intro he
    have : g = g' := by simpa [Value.ownBlock] using he
    subst this
    rw [hg] at hh
    injection hh with hh
    injection hh with _ ht
    exact hne ht.symm
theorem own_setCell {w : World} {base : Nat} {e : TypeId} {size n : Nat} {v : Value} {xs : List Value} (h : w.ownsRow base e size v n xs) {p : Addr} (hne : some p.block ≠ v.ownBlock) (u : Value) : (w.setCell p u).ownsRow base e size v n xs := by
  obtain ⟨h1, h2⟩ := h
  refine ⟨h1, ?_⟩
  rcases h2 with h2 | ⟨g, cap, cur, rfl, hg, hh, r⟩
  · exact .inl h2
  · exact .inr ⟨g, cap, cur, rfl, hg, by rw [Below.heap_setCell _ _ _ _ (fun e => hne (by rw [e]; rfl))]; exact hh, r⟩
theorem blk_lt {w : World} {g : Nat} {o : Obj} (h : w.heap[g]? = some o) : g < w.heap.size := (Array.getElem?_eq_some_iff.1 h).1
def KeepBut (w w' : World) (g : Nat) (row : Option Nat) : Prop := w.heap.size ≤ w'.heap.size ∧ ∀ i, i < w.heap.size → i ≠ g → some i ≠ row → w'.heap[i]? = w.heap[i]?
theorem KeepBut.refl (w : World) (g : Nat) (row : Option Nat) : KeepBut w w g row := ⟨Nat.le_refl _, fun _ _ _ _ => rfl⟩
theorem KeepBut.of_below {w w1 : World} (h : Below w.heap.size w w1) (g : Nat) (row : Option Nat) : KeepBut w w1 g row := ⟨h.size, fun i hi _ _ => h.block i hi⟩
theorem KeepBut.set_ {w w1 : World} {g : Nat} {row : Option Nat} (h : KeepBut w w1 g row) (j : Nat) (u : Value) : KeepBut w (w1.setCell ⟨g, j, none⟩ u) g row :=
  ⟨by simpa [World.setCell] using h.1, fun i hi hg hr => (Below.heap_setCell w1 ⟨g, j, none⟩ u i hg).trans (h.2 i hi hg hr)⟩
theorem KeepBut.trans {w w1 w2 : World} {g : Nat} {row row1 : Option Nat} (h : KeepBut w w1 g row) (k : KeepBut w1 w2 g row1) (hr : row1 = row ∨ ∃ b, row1 = some b ∧ w.heap.size ≤ b) : KeepBut w w2 g row :=
  ⟨Nat.le_trans h.1 k.1, fun i hi hg hn => by
    refine (k.2 i (Nat.lt_of_lt_of_le hi h.1) hg ?_).trans (h.2 i hi hg hn)
    rcases hr with rfl | ⟨b, rfl, hb⟩
    · exact hn
    · intro e
      injection e with e
      omega⟩
/-- Another block, another row: they live on. -/
theorem KeepBut.blk {w w1 : World} {g g' : Nat} {row : Option Nat} {o : Obj} (h : KeepBut w w1 g row) (hb : w.heap[g']? = some o) (hg : g' ≠ g) (hr : some g' ≠ row) : w1.heap[g']? = some o := (h.2 g' (blk_lt hb) hg hr).trans hb
theorem KeepBut.own {w w1 : World} {g : Nat} {row : Option Nat} {base : Nat} {e : TypeId} {size n : Nat} {v : Value} {xs : List Value} (h : KeepBut w w1 g row) (ho : w.ownsRow base e size v n xs) (hg : v.ownBlock ≠ some g) (hr : v.ownBlock = none ∨ v.ownBlock ≠ row) : w1.ownsRow base e size v n xs := by
  obtain ⟨h1, h2⟩ := ho
  refine ⟨h1, ?_⟩
  rcases h2 with h2 | ⟨b, cap, cur, rfl, hb, hh, r⟩
  · exact .inl h2
  · refine .inr ⟨b, cap, cur, rfl, hb, h.blk hh ?_ ?_, r⟩
    · intro e
      exact hg (by rw [← e]; rfl)
    · rcases hr with hr | hr
      · simp [Value.ownBlock] at hr
      · exact hr
def Ev {α : Type} (g : Nat → Option α) (r : α) : Prop := ∃ K, ∀ k, K ≤ k → g k = some r
theorem Ev.of {α : Type} {g : Nat → Option α} {r : α} (hg : ∀ k, LeO (g k) (g (k + 1))) {k : Nat} (h : g k = some r) : Ev g r := ⟨k, fun _ hk => at_rounds hg hk h⟩
theorem Ev.now {α : Type} (r : α) : Ev (fun _ => some r) r := ⟨0, fun _ _ => rfl⟩
theorem Ev.bind {α β : Type} {g : Nat → Option α} {f : Nat → α → Option β} {a : α} {r : β} (h : Ev g a) (k : Ev (fun n => f n a) r) : Ev (fun n => (g n).bind (f n)) r := by
  obtain ⟨K, h⟩ := h
  obtain ⟨K', k⟩ := k
  refine ⟨max K K', fun n hn => ?_⟩
  have h1 := h n (by omega)
  have h2 := k n (by omega)
  simp only [h1, Option.bind_some]
  exact h2
/-- One round of a loop. -/
theorem Ev.step {α : Type} {g f : Nat → Option α} {r : α} (h : ∀ k, g (k + 1) = f k) (k : Ev f r) : Ev g r := by
  obtain ⟨K, k⟩ := k
  refine ⟨K + 1, fun n hn => ?_⟩
  obtain ⟨m, rfl⟩ : ∃ m, n = m + 1 := ⟨n - 1, by omega⟩
  rw [h]
  exact k m (by omega)
theorem Ev.congr {α : Type} {g f : Nat → Option α} {r : α} (h : ∀ k, g k = f k) (k : Ev f r) : Ev g r := by
  obtain ⟨K, k⟩ := k
  exact ⟨K, fun n hn => (h n).trans (k n hn)⟩
section
variable {P : Program} {ops : Array Oper} {o : Oper} {a : Act} {Q : Exit → Act → World → Prop} {K : Act → World → Prop}
end
theorem own_weaken {w : World} {base base' : Nat} {e : TypeId} {size n : Nat} {v : Value} {xs : List Value} (h : w.ownsRow base e size v n xs) (hb : base' ≤ base) : w.ownsRow base' e size v n xs := by
  obtain ⟨h1, h2⟩ := h
  refine ⟨h1, ?_⟩
  rcases h2 with h2 | ⟨g, cap, cur, rfl, hg, r⟩
  · exact .inl h2
  · exact .inr ⟨g, cap, cur, rfl, Nat.le_trans hb hg, r⟩
section
variable {α : Type} {enc : α → Value} {d : α}
def rdOf (d : α) (xs : List α) (i : Int) : α := xs.getD i.toNat d
def ReadsOf (enc : α → Value) (d : α) (w : World) (A : Option Addr) (n : Nat) (xs : List α) : Prop :=
  xs.length = n ∧ n ≤ 9223372036854775807 ∧ (0 < n → ∃ ad, A = some ad ∧ ∀ j, j < n → w.cell? (ad.add j) = some (enc (xs.getD j d)))
theorem ReadsOf.at_ {w : World} {A : Option Addr} {n : Nat} {xs : List α} (h : ReadsOf enc d w A n xs) (i : Int) (h0 : 0 ≤ i) (h1 : i < n) : ∃ ad, A = some ad ∧ w.cell? (ad.add i.toNat) = some (enc (rdOf d xs i)) := by
  obtain ⟨ad, e, hc⟩ := h.2.2 (by omega)
  exact ⟨ad, e, hc _ (by omega)⟩
theorem ReadsOf.below {w w1 : World} {A : Option Addr} {n : Nat} {xs : List α} (h : ReadsOf enc d w A n xs) (hb : Below w.heap.size w w1) : ReadsOf enc d w1 A n xs :=
  ⟨h.1, h.2.1, fun hn => by
    obtain ⟨ad, e, hc⟩ := h.2.2 hn
    exact ⟨ad, e, fun j hj => pw_cell_below hb (hc j hj)⟩⟩
end
section
variable {α : Type} {P : Program} {ops : Array Oper} {rest : List Oper} {o : Oper} {a : Act} {Q : Exit → Act → World → Prop}
end
section
variable {P : Program}
end
theorem own_le {w : World} {base n m c size : Nat} {e : TypeId} {A : Option Addr} {xs : List Value} (h : w.ownsRow base e size (.slice A m c) n xs) : m ≤ c := by
  rcases h.2 with ⟨he, _⟩ | ⟨g, cap, cur, he, _, _, hnc, _⟩
  · injection he with _ h2 h3
    omega
  · injection he with _ h2 h3
    omega
def OwnRow {α : Type} (R : α → List Value → Prop) (e : TypeId) (size : Nat) (w : World) (base : Nat) (v : Value) (ps : List α) : Prop :=
  ∃ inner, w.ownsRow base e size v ps.length inner ∧ Reps R size ps inner
section
variable {α : Type} {R R' : α → List Value → Prop} {e : TypeId} {size : Nat} {w w1 : World} {base : Nat} {v : Value} {ps : List α}
theorem OwnRow.none_ (R : α → List Value → Prop) (e : TypeId) (size : Nat) (w : World) (base : Nat) : OwnRow R e size w base (.slice none 0 0) [] := ⟨[], own_nil _ _ _ _, Reps.none _ _⟩
theorem OwnRow.imp_ (h : OwnRow R e size w base v ps) (hR : ∀ p c, R p c → R' p c) : OwnRow R' e size w base v ps := by
  obtain ⟨inner, ho, hr⟩ := h
  exact ⟨inner, ho, hr.imp_ hR⟩
theorem OwnRow.below (h : OwnRow R e size w base v ps) (hb : Below w.heap.size w w1) : OwnRow R e size w1 base v ps := by
  obtain ⟨inner, ho, hr⟩ := h
  exact ⟨inner, pw_own_below ho hb, hr⟩
theorem OwnRow.other (h : OwnRow R e size w base v ps) {row : Option Nat} (hg : w.grownBy w1 row) (hne : v.ownBlock = none ∨ v.ownBlock ≠ row) : OwnRow R e size w1 base v ps := by
  obtain ⟨inner, ho, hr⟩ := h
  exact ⟨inner, own_other ho hg hne, hr⟩
theorem OwnRow.set_ (h : OwnRow R e size w base v ps) {g : Nat} {t : TypeId} {cells : Array Value} (hb : w.heap[g]? = some (.cells cells t (0, 0))) (ht : e ≠ t) (j : Nat) (u : Value) : OwnRow R e size (w.setCell ⟨g, j, none⟩ u) base v ps := by
  obtain ⟨inner, ho, hr⟩ := h
  exact ⟨inner, own_setCell ho (own_ne ho hb ht) u, hr⟩
theorem OwnRow.keep (h : OwnRow R e size w base v ps) {g : Nat} {t : TypeId} {cells : Array Value} (hb : w.heap[g]? = some (.cells cells t (0, 0))) (ht : e ≠ t) (hk : KeepBut w w1 g none) : OwnRow R e size w1 base v ps := by
  obtain ⟨inner, ho, hr⟩ := h
  exact ⟨inner, hk.own ho (Ne.symm (own_ne ho hb ht)) (by cases v.ownBlock <;> simp), hr⟩
theorem OwnRow.reads (h : OwnRow R e size w base v ps) : ∃ A c, v = .slice A ps.length c ∧ ps.length ≤ c ∧ ReadsRow R size w A ps.length ps := by
  obtain ⟨inner, ho, hr⟩ := h
  obtain ⟨A, c, rfl, hrow⟩ := own_reads_row ho hr rfl
  exact ⟨A, c, rfl, own_le ho, hrow⟩
/-- A literal: the elements' cells one behind the other. -/
theorem OwnRow.lit (W : World) (base : Nat) {inner : List Value} (hr : Reps R size ps inner) (hb : base ≤ W.heap.size) (hm : ps.length ≤ 9223372036854775807) :
    OwnRow R e size (W.alloc (.cells inner.toArray e)) base (.slice (some ⟨W.heap.size, 0, none⟩) ps.length ps.length) ps := by
  have h := World.ownsRow_lit (base := base) (e := e) (size := size) W inner.toArray ps.length hb (by simpa [maxLen] using hm) (by simpa using hr.1)
  exact ⟨inner, by simpa using h, hr⟩
end
section
variable {P : Program} {ops : Array Oper} {rest : List Oper} {o : Oper} {a : Act} {Q : Exit → Act → World → Prop} {α : Type} {R : α → List Value → Prop}
/-- append(v, x): x's cells are cs. R is that of the world AHEAD; move it over hg ('OwnRow.imp_'). -/
theorem OwnRow.append {w0 W : World} (base : Nat) (hgd : o.guard = none) (s x : Operand) (t e : TypeId) (z : Value) (size bytes : Nat)
    (ho : o.op = .call { callee := .builtin .append, args := #[s, x], argTypes := #[t, t] })
    (ht : P.underlying t = some (.slice e)) (hinfo : (P.info? e).map (fun i => (i.zero, i.size, i.bytes)) = some (some z, size, bytes)) (hz : z.cells.size = size) (hs0 : 0 < size) (hb0 : 0 < bytes)
    (v : Value) (ps : List α) (p : α) (cs : List Value) (hs : a.eval s = v) (hx : a.eval x = .slice (some ⟨W.heap.size, 0, none⟩) 1 1) (hp : R p cs) (hcs : cs.length = size) (h1 : ∀ u ∈ cs, u.oneCell' = true)
    (HO : OwnRow R e size W base v ps) (HB : Below base w0 W) (hbase : base ≤ W.heap.size) (hl : (ps.length + 1) * bytes ≤ 140737488355328)
    (h : ∀ v1 w1, OwnRow R e size w1 base v1 (ps ++ [p]) → Below base w0 w1 → W.grownBy w1 v.ownBlock → (v1.ownBlock = v.ownBlock ∨ ∃ b, v1.ownBlock = some b ∧ W.heap.size ≤ b) → wpList P ops Q rest (a.put o.dst v1) w1) :
    wpList P ops Q (o :: rest) a (W.alloc (.cells cs.toArray e)) := by
  obtain ⟨inner, hown, hr⟩ := HO
  refine print_append_cells base hgd s x t e z size bytes ho ht hinfo hz hs0 hb0 v ps.length inner cs hs hx hcs h1 hown HB hbase hl ?_
  intro v1 w1 hown1 hb1 hg1 hat1
  exact h v1 w1 ⟨inner ++ cs, by rw [List.length_append, List.length_singleton]; exact hown1, hr.snoc hp hcs⟩ hb1 hg1 hat1
end
section
variable {P : Program} {ops : Array Oper} {o : Oper} {a : Act} {Q : Exit → Act → World → Prop} {K : Act → World → Prop} {α : Type} {R : α → List Value → Prop}
end
section
variable {α : Type} {P : Program}
theorem ReadsOf.len_ {enc : α → Value} {d : α} {w : World} {A : Option Addr} {n : Nat} {xs : List α} (h : ReadsOf enc d w A n xs) : ReadsOf enc d w A xs.length xs := by rw [h.1]; exact h
end
section
variable {P : Program} {ops : Array Oper} {rest : List Oper} {o : Oper} {a : Act} {Q : Exit → Act → World → Prop}
end
/-- ok: which blocks the rows inside may be ('not the row that is being written'). -/
structure Kd (α : Type) where
  sz : Nat
  E : List Nat
  K : World → α → List Value → Prop
  M : World → Nat → (Nat → Prop) → α → List Value → Prop
  K_len : ∀ {w x cs}, K w x cs → cs.length = sz
  K_one : ∀ {w x cs}, K w x cs → ∀ u ∈ cs, u.oneCell' = true
  K_below : ∀ {w w1 : World} {x cs}, Below w.heap.size w w1 → K w x cs → K w1 x cs
  K_of_M : ∀ {w base ok x cs}, M w base ok x cs → K w x cs
  M_mono : ∀ {w base ok ok' x cs}, (∀ k, ok k → ok' k) → M w base ok x cs → M w base ok' x cs
  M_bound : ∀ {w : World} {base ok x cs}, M w base ok x cs → M w base (fun k => ok k ∧ base ≤ k ∧ k < w.heap.size ∧ ∃ q, q ∈ E ∧ ∃ cells, w.heap[k]? = some (.cells cells q (0, 0))) x cs
  M_move : ∀ {w w1 : World} {base ok x cs}, (∀ k, ok k → w1.heap[k]? = w.heap[k]?) → M w base ok x cs → M w1 base ok x cs
  M_lower : ∀ {w base base' ok x cs}, base' ≤ base → M w base ok x cs → M w base' ok x cs
theorem own_move {w w1 : World} {base : Nat} {e : TypeId} {size n : Nat} {v : Value} {xs : List Value} (h : w.ownsRow base e size v n xs) (hm : ∀ k, v.ownBlock = some k → w1.heap[k]? = w.heap[k]?) : w1.ownsRow base e size v n xs := by
  obtain ⟨h1, h2⟩ := h
  refine ⟨h1, ?_⟩
  rcases h2 with h2 | ⟨g, cap, cur, rfl, hg, hh, r⟩
  · exact .inl h2
  · exact .inr ⟨g, cap, cur, rfl, hg, (hm g (by simp [Value.ownBlock])).trans hh, r⟩
theorem own_typed {w : World} {base : Nat} {e : TypeId} {size n : Nat} {v : Value} {xs : List Value} (h : w.ownsRow base e size v n xs) (k : Nat) (hk : v.ownBlock = some k) : ∃ cells, w.heap[k]? = some (.cells cells e (0, 0)) := by
  rcases h.2 with ⟨rfl, _⟩ | ⟨g, cap, cur, rfl, hg, hh, r⟩
  · simp [Value.ownBlock] at hk
  · have : g = k := by simpa [Value.ownBlock] using hk
    subst this
    exact ⟨cur, hh⟩
namespace Kd
/-- A row of elements that is read. -/
def C {α : Type} (d : Kd α) (w : World) (A : Option Addr) (n : Nat) (xs : List α) : Prop := ReadsRow (d.K w) d.sz w A n xs
/-- A row of elements (type e) of the call's own; the elements' rows are not this one. -/
def R {α : Type} (d : Kd α) (e : Nat) (w : World) (base : Nat) (ok : Nat → Prop) (v : Value) (xs : List α) : Prop :=
  (∀ k, v.ownBlock = some k → ok k) ∧ OwnRow (d.M w base (fun k => ok k ∧ some k ≠ v.ownBlock)) e d.sz w base v xs
section
variable {α : Type} {d : Kd α} {e : Nat} {w w1 : World} {base : Nat} {ok ok' : Nat → Prop} {v : Value} {xs : List α}
theorem C_below {A : Option Addr} {n : Nat} (h : d.C w A n xs) (hb : Below w.heap.size w w1) : d.C w1 A n xs := ReadsRow.imp_ h hb (fun _ _ hp => d.K_below hb hp)
theorem R_mono (h : d.R e w base ok v xs) (hok : ∀ k, ok k → ok' k) : d.R e w base ok' v xs := ⟨fun k hk => hok k (h.1 k hk), h.2.imp_ (fun _ _ hp => d.M_mono (fun k hk => ⟨hok k hk.1, hk.2⟩) hp)⟩
theorem R_bound (h : d.R e w base ok v xs) : d.R e w base (fun k => ok k ∧ base ≤ k ∧ k < w.heap.size ∧ ∃ q, q ∈ e :: d.E ∧ ∃ cells, w.heap[k]? = some (.cells cells q (0, 0))) v xs := by
  obtain ⟨h0, inner, ho, hr⟩ := h
  refine ⟨fun k hk => ?_, inner, ho, hr.imp_ (fun _ _ hp => d.M_mono (fun k hk => ?_) (d.M_bound hp))⟩
  · obtain ⟨cells, hc⟩ := own_typed ho k hk
    exact ⟨h0 k hk, own_base ho k hk, own_lt ho k hk, e, List.mem_cons_self, cells, hc⟩
  · obtain ⟨⟨h1, h2⟩, h3, h4, q, hq, hc⟩ := hk
    exact ⟨⟨h1, h3, h4, q, List.mem_cons_of_mem _ hq, hc⟩, h2⟩
theorem R_move (h : d.R e w base ok v xs) (hm : ∀ k, ok k → w1.heap[k]? = w.heap[k]?) : d.R e w1 base ok v xs := by
  obtain ⟨h0, inner, ho, hr⟩ := h
  exact ⟨h0, inner, own_move ho (fun k hk => hm k (h0 k hk)), hr.imp_ (fun _ _ hp => d.M_move (fun k hk => hm k hk.1) hp)⟩
theorem R_lower {base' : Nat} (h : d.R e w base ok v xs) (hb : base' ≤ base) : d.R e w base' ok v xs := by
  obtain ⟨h0, inner, ho, hr⟩ := h
  exact ⟨h0, inner, own_weaken ho hb, hr.imp_ (fun _ _ hp => d.M_lower hb hp)⟩
theorem R_reads (h : d.R e w base ok v xs) : ∃ A c, v = .slice A xs.length c ∧ xs.length ≤ c ∧ d.C w A xs.length xs := by
  obtain ⟨A, c, he, hl, hr⟩ := OwnRow.reads h.2
  exact ⟨A, c, he, hl, hr.imp_ (Below.refl _ _) (fun _ _ hp => d.K_of_M hp)⟩
end
def scalar {α : Type} (enc : α → Value) (h1 : ∀ x, (enc x).oneCell' = true) : Kd α where
  sz := 1
  E := []
  K := fun _ x cs => cs = [enc x]
  M := fun _ _ _ x cs => cs = [enc x]
  K_len := fun h => by rw [h]; rfl
  K_one := fun h u hu => by
    rw [h] at hu
    rw [List.mem_singleton.1 hu]
    exact h1 _
  K_below := fun _ h => h
  K_of_M := fun h => h
  M_mono := fun _ h => h
  M_bound := fun h => h
  M_move := fun _ h => h
  M_lower := fun _ h => h
def int (k : IntKind) : Kd Int := scalar (Value.int k) (fun _ => rfl)
def bool : Kd Bool := scalar Value.bool (fun _ => rfl)
def string : Kd ByteArray := scalar Value.string (fun _ => rfl)
def slice {α : Type} (e : Nat) (d : Kd α) : Kd (List α) where
  sz := 1
  E := e :: d.E
  K := fun w xs cs => ∃ A c, cs = [.slice A xs.length c] ∧ xs.length ≤ c ∧ d.C w A xs.length xs
  M := fun w base ok xs cs => ∃ v, cs = [v] ∧ d.R e w base ok v xs
  K_len := by
    rintro w x cs ⟨A, c, rfl, _⟩
    rfl
  K_one := by
    rintro w x cs ⟨A, c, rfl, _⟩ u hu
    rw [List.mem_singleton.1 hu]
    rfl
  K_below := by
    rintro w w1 x cs hb ⟨A, c, rfl, hl, hr⟩
    exact ⟨A, c, rfl, hl, C_below hr hb⟩
  K_of_M := by
    rintro w base ok x cs ⟨v, rfl, h⟩
    obtain ⟨A, c, rfl, hl, hr⟩ := R_reads h
    exact ⟨A, c, rfl, hl, hr⟩
  M_mono := by
    rintro w base ok ok' x cs hok ⟨v, rfl, h⟩
    exact ⟨v, rfl, R_mono h hok⟩
  M_bound := by
    rintro w base ok x cs ⟨v, rfl, h⟩
    exact ⟨v, rfl, R_bound h⟩
  M_move := by
    rintro w w1 base ok x cs hm ⟨v, rfl, h⟩
    exact ⟨v, rfl, R_move h hm⟩
  M_lower := by
    rintro w base base' ok x cs hb ⟨v, rfl, h⟩
    exact ⟨v, rfl, R_lower h hb⟩
/-- Two in line. -/
def pair {α β : Type} (a : Kd α) (b : Kd β) : Kd (α × β) where
  sz := a.sz + b.sz
  E := a.E ++ b.E
  K := fun w x cs => ∃ c0 c1, cs = c0 ++ c1 ∧ a.K w x.1 c0 ∧ b.K w x.2 c1
  M := fun w base ok x cs => ∃ c0 c1, cs = c0 ++ c1 ∧ a.M w base ok x.1 c0 ∧ b.M w base ok x.2 c1
  K_len := by
    rintro w x cs ⟨c0, c1, rfl, h0, h1⟩
    rw [List.length_append, a.K_len h0, b.K_len h1]
  K_one := by
    rintro w x cs ⟨c0, c1, rfl, h0, h1⟩ u hu
    rcases List.mem_append.1 hu with hu | hu
    · exact a.K_one h0 u hu
    · exact b.K_one h1 u hu
  K_below := by
    rintro w w1 x cs hb ⟨c0, c1, rfl, h0, h1⟩
    exact ⟨c0, c1, rfl, a.K_below hb h0, b.K_below hb h1⟩
  K_of_M := by
    rintro w base ok x cs ⟨c0, c1, rfl, h0, h1⟩
    exact ⟨c0, c1, rfl, a.K_of_M h0, b.K_of_M h1⟩
  M_mono := by
    rintro w base ok ok' x cs hok ⟨c0, c1, rfl, h0, h1⟩
    exact ⟨c0, c1, rfl, a.M_mono hok h0, b.M_mono hok h1⟩
  M_bound := by
    rintro w base ok x cs ⟨c0, c1, rfl, h0, h1⟩
    refine ⟨c0, c1, rfl, a.M_mono ?_ (a.M_bound h0), b.M_mono ?_ (b.M_bound h1)⟩
    · rintro k ⟨h2, h3, h4, q, hq, hc⟩
      exact ⟨h2, h3, h4, q, List.mem_append_left _ hq, hc⟩
    · rintro k ⟨h2, h3, h4, q, hq, hc⟩
      exact ⟨h2, h3, h4, q, List.mem_append_right _ hq, hc⟩
  M_move := by
    rintro w w1 base ok x cs hm ⟨c0, c1, rfl, h0, h1⟩
    exact ⟨c0, c1, rfl, a.M_move hm h0, b.M_move hm h1⟩
  M_lower := by
    rintro w base base' ok x cs hb ⟨c0, c1, rfl, h0, h1⟩
    exact ⟨c0, c1, rfl, a.M_lower hb h0, b.M_lower hb h1⟩
/-- A Lean structure by its fields. -/
def iso {α β : Type} (d : Kd α) (f : β → α) : Kd β where
  sz := d.sz
  E := d.E
  K := fun w x cs => d.K w (f x) cs
  M := fun w base ok x cs => d.M w base ok (f x) cs
  K_len := d.K_len
  K_one := d.K_one
  K_below := d.K_below
  K_of_M := d.K_of_M
  M_mono := d.M_mono
  M_bound := d.M_bound
  M_move := d.M_move
  M_lower := d.M_lower
/-- Nothing is of this kind: where the nesting's depth is used up. -/
def bot {α : Type} (sz : Nat) (E : List Nat) : Kd α where
  sz := sz
  E := E
  K := fun _ _ _ => False
  M := fun _ _ _ _ _ => False
  K_len := fun h => h.elim
  K_one := fun h => h.elim
  K_below := fun _ h => h
  K_of_M := fun h => h
  M_mono := fun _ h => h
  M_bound := fun h => h
  M_move := fun _ h => h
  M_lower := fun _ h => h
/-- A type nested in itself: nested at most n deep .. -/
def upto {α : Type} (F : Kd α → Kd α) (sz : Nat) (E : List Nat) : Nat → Kd α
  | 0 => bot sz E
  | n + 1 => F (upto F sz E n)
/-- .. for some n. -/
def fix {α : Type} (F : Kd α → Kd α) (sz : Nat) (E : List Nat) (hs : ∀ n, (upto F sz E n).sz = sz) (hE : ∀ n q, q ∈ (upto F sz E n).E → q ∈ E) : Kd α where
  sz := sz
  E := E
  K := fun w x cs => ∃ n, (upto F sz E n).K w x cs
  M := fun w base ok x cs => ∃ n, (upto F sz E n).M w base ok x cs
  K_len := by
    rintro w x cs ⟨n, h⟩
    rw [(upto F sz E n).K_len h, hs n]
  K_one := by
    rintro w x cs ⟨n, h⟩
    exact (upto F sz E n).K_one h
  K_below := by
    rintro w w1 x cs hb ⟨n, h⟩
    exact ⟨n, (upto F sz E n).K_below hb h⟩
  K_of_M := by
    rintro w base ok x cs ⟨n, h⟩
    exact ⟨n, (upto F sz E n).K_of_M h⟩
  M_mono := by
    rintro w base ok ok' x cs hok ⟨n, h⟩
    exact ⟨n, (upto F sz E n).M_mono hok h⟩
  M_bound := by
    rintro w base ok x cs ⟨n, h⟩
    refine ⟨n, (upto F sz E n).M_mono ?_ ((upto F sz E n).M_bound h)⟩
    rintro k ⟨h2, h3, h4, q, hq, hc⟩
    exact ⟨h2, h3, h4, q, hE n q hq, hc⟩
  M_move := by
    rintro w w1 base ok x cs hm ⟨n, h⟩
    exact ⟨n, (upto F sz E n).M_move hm h⟩
  M_lower := by
    rintro w base base' ok x cs hb ⟨n, h⟩
    exact ⟨n, (upto F sz E n).M_lower hb h⟩
section
variable {P : Program} {ops : Array Oper} {rest : List Oper} {o : Oper} {a : Act} {Q : Exit → Act → World → Prop} {α : Type}
end
section
variable {P : Program} {ops : Array Oper} {o : Oper} {a : Act} {Q : Exit → Act → World → Prop} {Kc : Act → World → Prop} {α : Type}
end
end Kd
namespace Kd
/-- F says the more, the more its argument says. -/
structure Mono {α β : Type} (F : Kd α → Kd β) : Prop where
  sz : ∀ d d' : Kd α, d.sz = d'.sz → (F d).sz = (F d').sz
  K : ∀ d d' : Kd α, d.sz = d'.sz → (∀ w x cs, d.K w x cs → d'.K w x cs) → ∀ w x cs, (F d).K w x cs → (F d').K w x cs
  M : ∀ d d' : Kd α, d.sz = d'.sz → (∀ w base ok x cs, d.M w base ok x cs → d'.M w base ok x cs) → ∀ w base ok x cs, (F d).M w base ok x cs → (F d').M w base ok x cs
section
variable {α : Type} {F : Kd α → Kd α} {sz : Nat} {E : List Nat} {hs : ∀ n, (upto F sz E n).sz = sz} {hE : ∀ n q, q ∈ (upto F sz E n).E → q ∈ E}
end
end Kd
namespace Kd
end Kd
namespace Kd
section
variable {α β : Type} {d : Kd α} {d' : Kd β} {e e' : Nat} {w w1 W : World} {base b b' : Nat} {ok ok' okv oku : Nat → Prop} {v u : Value} {xs : List α} {ys : List β}
theorem C_nil (d : Kd α) (w : World) : d.C w none ([] : List α).length [] := ⟨rfl, by simp, fun h => absurd h (Nat.lt_irrefl 0)⟩
end
section
variable {w W : World} {A : Option Addr} {n : Nat}
variable {α : Type} {enc : α → Value} {h1 : ∀ x, (enc x).oneCell' = true} {e base g cap : Nat} {ok : Nat → Prop} {xs : List α}
end
section
variable {P : Program} {ops : Array Oper} {rest : List Oper} {o : Oper} {a : Act} {Q : Exit → Act → World → Prop}
variable {α : Type}
end
end Kd
section
variable {P : Program}
end
/-- A row of one's own that may begin inside its block. -/
def QRow (w : World) (base : Nat) (e : TypeId) (size : Nat) (v : Value) (n : Nat) (xs : List Value) : Prop :=
  xs.length = n * size ∧
  ((n = 0 ∧ ∃ A, v = .slice A 0 0 ∧ ∀ a, A = some a → base ≤ a.block ∧ ∃ cur, w.heap[a.block]? = some (.cells cur e (0, 0))) ∨
   ∃ g off cap cur, v = .slice (some ⟨g, off * size, none⟩) n cap ∧ base ≤ g ∧ w.heap[g]? = some (.cells cur e (0, 0)) ∧ n ≤ cap ∧ off + cap ≤ maxLen ∧ cur.size = (off + cap) * size ∧ (cur.toList.drop (off * size)).take (n * size) = xs)
section
variable {w w1 : World} {base n size : Nat} {e : TypeId} {v : Value} {xs : List Value}
end
section
variable {P : Program}
end
namespace Kd
def Q {α : Type} (d : Kd α) (e : Nat) (w : World) (base : Nat) (ok : Nat → Prop) (v : Value) (xs : List α) : Prop :=
  (∀ k, v.ownBlock = some k → ok k) ∧ ∃ inner, QRow w base e d.sz v xs.length inner ∧ Reps (d.M w base (fun k => ok k ∧ some k ≠ v.ownBlock)) d.sz xs inner
section
variable {α : Type} {d : Kd α} {e : Nat} {w w1 W : World} {base : Nat} {ok ok' : Nat → Prop} {v : Value} {xs : List α}
end
section
variable {P : Program} {ops : Array Oper} {rest : List Oper} {o : Oper} {a : Act} {Q' : Exit → Act → World → Prop} {Kc : Act → World → Prop} {α : Type}
end
end Kd
namespace Kd
section
variable {α : Type} {d : Kd α} {e e' : Nat} {w w1 W : World} {base : Nat} {ok : Nat → Prop} {u v : Value} {xs : List α}
end
end Kd
namespace Kd
section
variable {α : Type} {d : Kd α} {e base g n cap : Nat} {ok okp : Nat → Prop} {W : World} {xs : List α}
end
end Kd
namespace Kd
section
variable {α : Type} {F : Kd α → Kd α} {sz : Nat} {E : List Nat} {hs : ∀ n, (upto F sz E n).sz = sz} {hE : ∀ n q, q ∈ (upto F sz E n).E → q ∈ E}
end
end Kd
namespace Kd
section
variable {P : Program} {ops : Array Oper} {rest : List Oper} {o : Oper} {a : Act} {Q : Exit → Act → World → Prop} {α : Type}
end
end Kd
namespace Kd
section
variable {P : Program} {ops : Array Oper} {rest : List Oper} {o : Oper} {a : Act} {Q : Exit → Act → World → Prop} {α : Type}
end
end Kd
namespace Kd
section
variable {α : Type} {k : Kd α} {w : World} {A : Option Addr} {xs : List α} {m c : Nat}
end
end Kd
section
variable {P : Program}
end
theorem ReadsInt.nil (W : World) (k : IntKind) : ReadsInt W k none ([] : List Int).length [] := ⟨rfl, by simp, fun h => absurd h (Nat.lt_irrefl 0)⟩
theorem ReadsInt.drewN {W : World} {k : IntKind} {A : Option Addr} {n : Nat} {xs : List Int} (h : ReadsInt W k A n xs) (m : Nat) : ReadsInt (W.drewN m) k A n xs := h
theorem keep_cell {w W : World} {g : Nat} (h : KeepBut w W g none) {a : Addr} {v : Value} (hc : w.cell? a = some v) (hne : a.block ≠ g) : W.cell? a = some v := by
  have := h.2 a.block (World.block_lt_of_cell? w a hc) hne (by simp)
  simpa [World.cell?, this] using hc
theorem add_block (a : Addr) (i : Nat) : (a.add i).block = a.block := by unfold Addr.add; split <;> rfl
theorem ReadsOf.nil {α : Type} (enc : α → Value) (d : α) (W : World) : ReadsOf enc d W none ([] : List α).length [] := ⟨rfl, by simp, fun h => absurd h (Nat.lt_irrefl 0)⟩
theorem ReadsOf.drewN {α : Type} {enc : α → Value} {d : α} {W : World} {A : Option Addr} {n : Nat} {xs : List α} (h : ReadsOf enc d W A n xs) (m : Nat) : ReadsOf enc d (W.drewN m) A n xs := h
theorem ReadsInt.keep {w W : World} {k : IntKind} {A : Option Addr} {n g : Nat} {xs : List Int} (h : ReadsInt w k A n xs) (hk : KeepBut w W g none) (hf : ∀ ad, A = some ad → 0 < n → ad.block ≠ g) : ReadsInt W k A n xs :=
  ⟨h.1, h.2.1, fun hn => by
    obtain ⟨ad, e, hc⟩ := h.2.2 hn
    exact ⟨ad, e, fun j hj => keep_cell hk (hc j hj) (by rw [add_block]; exact hf ad e hn)⟩⟩
theorem ReadsOf.keep {α : Type} {enc : α → Value} {d : α} {w W : World} {A : Option Addr} {n g : Nat} {xs : List α} (h : ReadsOf enc d w A n xs) (hk : KeepBut w W g none) (hf : ∀ ad, A = some ad → 0 < n → ad.block ≠ g) : ReadsOf enc d W A n xs :=
  ⟨h.1, h.2.1, fun hn => by
    obtain ⟨ad, e, hc⟩ := h.2.2 hn
    exact ⟨ad, e, fun j hj => keep_cell hk (hc j hj) (by rw [add_block]; exact hf ad e hn)⟩⟩
namespace Kd
section
variable {α β : Type} {d : Kd α} {d' : Kd β} {e e' base base' n : Nat} {ok ok' : Nat → Prop} {w W w1 W1 : World} {v u : Value} {xs : List α} {ys : List β} {A : Option Addr} {c : Nat}
end
section
variable {α : Type} {enc : α → Value} {h1 : ∀ x, (enc x).oneCell' = true} {w W : World} {A : Option Addr} {n g : Nat} {xs : List α}
end
end Kd
namespace Kd
section
variable {α : Type} {d : Kd α} {e base g : Nat} {ok : Nat → Prop} {w w1 : World} {v : Value} {xs : List α} {o : Obj}
end
end Kd
section
variable {P : Program} {ops : Array Oper} {rest : List Oper} {o : Oper} {a : Act} {Q : Exit → Act → World → Prop}
end
namespace Kd
section
variable {α : Type} {enc : α → Value} {h1 : ∀ x, (enc x).oneCell' = true} {e base g n cap : Nat} {ok : Nat → Prop} {W : World} {xs : List α}
end
end Kd
section
variable {P : Program} {ops : Array Oper} {rest : List Oper} {o : Oper} {a : Act} {Q : Exit → Act → World → Prop}
end
namespace Kd
section
variable {α : Type} {enc : α → Value} {h1 : ∀ x, (enc x).oneCell' = true} {e base g n cap : Nat} {ok : Nat → Prop} {W : World} {xs : List α}
end
end Kd
section
variable {P : Program} {ops : Array Oper} {rest : List Oper} {o : Oper} {a : Act} {Q : Exit → Act → World → Prop} {W : World}
end
section
variable {P : Program} {ops : Array Oper} {o : Oper} {a : Act} {Q : Exit → Act → World → Prop} {Kc : Act → World → Prop}
namespace Kd
variable {α : Type}
end Kd
end
inductive Vals (P : Program) (tmps : Array Value) (w : World) : List ResultVar → List Value → Prop where
  | nil : Vals P tmps w [] []
  | tmp {u : Tmp} {rs : List ResultVar} {vs : List Value} (h : Vals P tmps w rs vs) : Vals P tmps w (.tmp u :: rs) (tmps.getD u undef :: vs)
  | cell {p : Tmp} {ty : TypeId} {rs : List ResultVar} {vs : List Value} (g : Nat) (t : TypeId) (cs : Array Value) (fr : Nat × Nat) (d : TypeDesc)
      (hp : tmps.getD p undef = .pointer (some ⟨g, 0, none⟩)) (hg : w.heap[g]? = some (.cells cs t fr))
      (hu : P.underlying ty = some d) (hd : (match d with | .struct _ | .array _ _ => true | _ => false) = true) (hi : (P.info? ty).map (·.size) = some cs.size)
      (h : Vals P tmps w rs vs) : Vals P tmps w (.cell p ty :: rs) (.agg cs :: vs)
section
variable {P : Program} {tmps : Array Value} {w : World}
end
namespace Kd
section
variable {P : Program} {α : Type}
end
section
variable {P : Program} {ops : Array Oper} {rest : List Oper} {o : Oper} {a : Act} {Q : Exit → Act → World → Prop} {Kc : Act → World → Prop} {α : Type}
end
end Kd
end Go.Proofs.YtkcgokkgefgcjaaGreatDoorW.PrintWords
end
section
namespace Go.Proofs.YtkcgokkgefgcjaaGreatDoor.H
open Go.RowKit Go.MapKept Go.Proofs.YtkcgokkgefgcjaaGreatDoorW.PrintWords
set_option linter.unusedVariables false
set_option linter.unusedSimpArgs false
variable {P : Program}
def m0 (w : World) : M :=
  { w0 := w, fix := ⟨fun k => k < w.heap.size, fun k => k < w.heap.size, fun _ h => h⟩, com := fun b o => match w.cell? ⟨b, o, none⟩ with | some v => if v.oneCell' then some v else none | none => none, loc := fun _ => none, res := fun _ => false }
theorem m0_com {w : World} {b o : Nat} {v : Value} : (m0 w).com b o = some v ↔ w.cell? ⟨b, o, none⟩ = some v ∧ v.oneCell' = true := by
  show (match w.cell? ⟨b, o, none⟩ with | some v => if v.oneCell' then some v else none | none => none) = some v ↔ _
  cases h : w.cell? ⟨b, o, none⟩ with
  | none => simp
  | some u =>
    simp only
    split
    · rename_i h1; simp only [Option.some.injEq]; constructor
      · rintro rfl; exact ⟨rfl, h1⟩
      · exact fun h => h.1
    · rename_i h1; simp only [Option.some.injEq, false_iff, not_and, reduceCtorEq]; rintro rfl; exact h1
def s0 : HS := fun _ => none
theorem rel0 (w : World) : Rel (m0 w) s0 w :=
  ⟨⟨rfl, rfl, rfl, fun k h => ⟨h, rfl⟩⟩, fun b o v h => (m0_com.1 h).1, (fun id ob l h => by cases h), (fun id ob l h => by cases h), (fun id id' ob ob' l l' h => by cases h), 0, fun id _ => ⟨rfl, rfl, rfl⟩⟩
/-- A kind's cells, as H values. -/
structure Br {α : Type} (d : Kd α) (enc : α → List HV) : Prop where
  pos : 0 < d.sz
  len : ∀ x, (enc x).length = d.sz
  rep : ∀ w x cs, d.K w x cs → Reps (m0 w) (enc x) cs
theorem reps1 {m : M} {x : HV} {v : Value} (h : Rep m x v) (ho : hone x = true) : Reps m [x] [v] :=
  ⟨fun z hz => by simp at hz; subst hz; exact ho, rfl, fun j z hj => by cases j with | zero => simp at hj; subst hj; exact h | succ j => simp at hj⟩
theorem Br.int (k : IntKind) : Br (Kd.int k) (fun n => [.lit (.int k n)]) := ⟨Nat.one_pos, fun _ => rfl, fun w x cs h => by rw [show cs = [.int k x] from h]; exact reps1 (.lit _) rfl⟩
theorem Br.bool : Br Kd.bool (fun b => [.lit (.bool b)]) := ⟨Nat.one_pos, fun _ => rfl, fun w x cs h => by rw [show cs = [.bool x] from h]; exact reps1 (.lit _) rfl⟩
theorem Br.string : Br Kd.string (fun b => [.lit (.string b)]) := ⟨Nat.one_pos, fun _ => rfl, fun w x cs h => by rw [show cs = [.string x] from h]; exact reps1 (.lit _) rfl⟩
theorem Br.pair {α β : Type} {a : Kd α} {b : Kd β} {ea : α → List HV} {eb : β → List HV} (ha : Br a ea) (hb : Br b eb) : Br (Kd.pair a b) (fun x => ea x.1 ++ eb x.2) :=
  ⟨Nat.lt_of_lt_of_le ha.pos (Nat.le_add_right _ _), fun x => by rw [List.length_append, ha.len, hb.len]; rfl, fun w x cs h => by
    obtain ⟨c0, c1, rfl, h0, h1⟩ := h
    exact (ha.rep w _ _ h0).append (hb.rep w _ _ h1)⟩
theorem Br.iso {α β : Type} {d : Kd α} {e : α → List HV} (h : Br d e) (f : β → α) : Br (Kd.iso d f) (fun x => e (f x)) := ⟨h.pos, fun x => h.len _, fun w x cs hk => h.rep w _ _ hk⟩
theorem flat_at {α : Type} {enc : α → List HV} {sz : Nat} (hlen : ∀ x, (enc x).length = sz) (hpos : 0 < sz) : ∀ (xs : List α) (j : Nat), (xs.flatMap enc)[j]? = (xs[j / sz]?).bind fun x => (enc x)[j % sz]?
  | [], j => by simp
  | x :: xs, j => by
    rw [List.flatMap_cons]
    by_cases h : j < sz
    · rw [List.getElem?_append_left (by rw [hlen]; exact h), Nat.div_eq_of_lt h, Nat.mod_eq_of_lt h]; simp
    · rw [List.getElem?_append_right (by rw [hlen]; omega), hlen, flat_at hlen hpos xs]
      have h1 : j / sz = (j - sz) / sz + 1 := by rw [Nat.div_eq_sub_div hpos (by omega)]
      have h2 : j % sz = (j - sz) % sz := Nat.mod_eq_sub_mod (by omega)
      rw [h1, h2]; simp
theorem flat_len {α : Type} {enc : α → List HV} {sz : Nat} (hlen : ∀ x, (enc x).length = sz) : ∀ xs : List α, (xs.flatMap enc).length = xs.length * sz
  | [] => by simp
  | x :: xs => by rw [List.flatMap_cons, List.length_append, hlen, flat_len hlen xs, List.length_cons, Nat.add_mul]; omega
theorem Br.row {α : Type} {d : Kd α} {enc : α → List HV} (h : Br d enc) {w : World} {A : Option Addr} {n c : Nat} {xs : List α} (hr : d.C w A n xs) (hc : n ≤ c) : Rep (m0 w) (.list d.sz n (xs.flatMap enc) false) (.slice A n c) := by
  obtain ⟨h1, h2, h3⟩ := hr
  rcases Nat.eq_zero_or_pos n with hn | hn
  · subst hn
    have : xs = [] := List.eq_nil_of_length_eq_zero h1
    subst this
    exact .list0 _ _ _ _ (fun h => by cases h)
  · obtain ⟨ad, rfl, hx⟩ := h3 hn
    have hlenF := flat_len h.len xs
    rw [h1] at hlenF
    -- each cell
    have key : ∀ j, j < n * d.sz → ∃ v y, w.cell? (ad.add j) = some v ∧ v.oneCell' = true ∧ (xs.flatMap enc)[j]? = some y ∧ Rep (m0 w) y v ∧ hone y = true := by
      intro j hj
      have hq : j / d.sz < xs.length := by rw [h1]; exact Nat.div_lt_of_lt_mul (by rw [Nat.mul_comm]; exact hj)
      have hxq : xs[j / d.sz]? = some xs[j / d.sz] := by simp [hq]
      obtain ⟨cs, hl, hk, hcell⟩ := hx _ _ hxq
      have hrp := h.rep w _ _ hk
      have hm : j % d.sz < cs.length := by rw [hl]; exact Nat.mod_lt _ h.pos
      have hcj : cs[j % d.sz]? = some cs[j % d.sz] := by simp [hm]
      have hm2 : j % d.sz < (enc xs[j / d.sz]).length := by rw [h.len]; exact Nat.mod_lt _ h.pos
      have hy : (enc xs[j / d.sz])[j % d.sz]? = some (enc xs[j / d.sz])[j % d.sz] := by simp [hm2]
      refine ⟨cs[j % d.sz], (enc xs[j / d.sz])[j % d.sz], ?_, d.K_one hk _ (List.getElem_mem hm), ?_, ?_, hrp.1 _ (List.getElem_mem hm2)⟩
      · have := hcell _ _ hcj
        rwa [Nat.div_add_mod' j d.sz] at this
      · rw [flat_at h.len h.pos, hxq]; exact hy
      · have := hrp.2.2 _ _ hy
        rwa [show cs.getD (j % d.sz) undef = cs[j % d.sz] from by simp [List.getD, hm]] at this
    have hspot : ad.spot = none := by
      obtain ⟨v, y, hv, -⟩ := key 0 (Nat.mul_pos hn h.pos)
      have e : ad.add 0 = ad := by unfold Addr.add; rfl
      rw [e] at hv
      unfold World.cell? at hv
      split at hv
      · split at hv
        · cases hv
        · rename_i hs; simpa using hs
      · cases hv
    obtain ⟨b, o, sp⟩ := ad
    simp only at hspot; subst hspot
    refine .list d.sz n _ false c b o (fun j => (w.cell? ⟨b, o + j, none⟩).getD undef) hc (fun h => by cases h) hlenF (fun x hx => ?_) (fun j hj => ?_) (fun j x hj => ?_)
    · obtain ⟨j, hj⟩ := List.getElem?_of_mem hx
      have hlt := (List.getElem?_eq_some_iff.1 hj).1
      obtain ⟨v, y, g1, g2, g3, g4, g5⟩ := key j (by omega)
      rw [g3] at hj; cases hj; exact g5
    · obtain ⟨v, y, g1, g2, g3, g4, g5⟩ := key j (by omega)
      rw [add_loc] at g1
      rw [g1]; exact m0_com.2 ⟨g1, g2⟩
    · have hlt := (List.getElem?_eq_some_iff.1 hj).1
      obtain ⟨v, y, g1, g2, g3, g4, g5⟩ := key j (by omega)
      rw [add_loc] at g1
      rw [g1]; rw [g3] at hj; cases hj; exact g4
theorem Br.slice {α : Type} (e : Nat) {d : Kd α} {enc : α → List HV} (h : Br d enc) : Br (Kd.slice e d) (fun xs => [.list d.sz xs.length (xs.flatMap enc) false]) :=
  ⟨Nat.one_pos, fun _ => rfl, fun w xs cs hk => by
    obtain ⟨A, c, rfl, hc, hr⟩ := hk
    exact reps1 (h.row hr hc) rfl⟩
/-- From the H layer to the law. -/
theorem law_of {f : FuncId} {args : List HV} {cargs : Array Value} {w : World} (h : HC P f args s0 fun v _ => v = .lit (.bool true)) (hn : cargs.size = args.length) (ha : ∀ (j : Nat) x, args[j]? = some x → Rep (m0 w) x (cargs.getD j undef)) :
    Calls P f cargs w fun e w' => e = .returned (.bool true) ∧ Below w.heap.size w w' := by
  refine (h (m0 w) w cargs (rel0 w) hn ha).mono ?_
  rintro e w' ⟨cv, v, s', m', rfl, h1, h2, h3, rfl⟩
  cases h3
  refine ⟨rfl, ?_⟩
  have hb := h2.below
  have hf := h1.fix
  have hkey : ∀ k, k < w.heap.size → k < w'.heap.size ∧ w'.heap[k]? = w.heap[k]? := fun k hk => ⟨(hb.block k (hf k hk).1).1, (hb.block k (hf k hk).1).2.trans (hf k hk).2⟩
  refine ⟨hb.os.trans h1.env.1, hb.tape.trans h1.env.2.1, hb.output.trans h1.env.2.2, ?_, fun k hk => (hkey k hk).2⟩
  rcases Nat.eq_zero_or_pos w.heap.size with h0 | h0
  · omega
  · have := (hkey (w.heap.size - 1) (by omega)).1
    omega
end Go.Proofs.YtkcgokkgefgcjaaGreatDoor.H
end
section
namespace Go.Proofs.YtkcgokkgefgcjaaGreatDoorW.PrintLast
section
variable {P : Program} {ops : Array Oper} {Q : Exit → Act → World → Prop} {md : Region.Mode} {S : World → Prop} {ds : List Nat}
def ListedClosed (md : Region.Mode) (ops : Array Oper) (listed : Array Bool) : Prop :=
  ∀ j oj, ops[j]? = some oj → listed.getD j false = true → ∀ e ∈ oj.after, Region.binds md e = true → listed.getD e.on false = true
theorem ListedClosed.set {listed : Array Bool} {i : Nat} (h : ListedClosed md ops listed) (hi : i ∈ Region.ready md ops listed) : ListedClosed md ops (listed.setIfInBounds i true) := by
  obtain ⟨_, oi, hoi, hall⟩ := mem_ready.1 hi
  intro j oj hj hl e he hb
  by_cases hij : i = j
  · subst hij
    have : oj = oi := Option.some.inj (hj.symm.trans hoi)
    subst this
    exact getD_set_true (hall e he hb)
  · rw [getD_set_ne false hij] at hl
    exact getD_set_true (h j oj hj hl e he hb)
/-- Whatever order is picked from here on, AND 'S' HOLDS BEHIND EVERY OPERATION THAT IS CARRIED OUT, those of ds apart. -/
def wpAnyLast (P : Program) (md : Region.Mode) (ops : Array Oper) (Q : Exit → Act → World → Prop) (S : World → Prop) (ds : List Nat) : Nat → Array Bool → Act → World → Prop
  | 0, listed, a, w => Region.ready md ops listed = [] ∧ Q .normal a w
  | fuel + 1, listed, a, w =>
    (Region.ready md ops listed = [] → Q .normal a w) ∧
    ∀ i ∈ Region.ready md ops listed, wpOp P ops Q i (fun a' w' => (i ∉ ds → S w → S w') ∧ wpAnyLast P md ops Q S ds fuel (listed.setIfInBounds i true) a' w') a w
end
section
variable {P : Program} {ops : Array Oper} {Q : Exit → Act → World → Prop} {md : Region.Mode} {S : World → Prop} {ds : List Nat}
def AllReadyL (P : Program) (md : Region.Mode) (ops : Array Oper) (Q : Exit → Act → World → Prop) (S : World → Prop) (ds : List Nat) (fuel : Nat) (listed : Array Bool) (a : Act) (w : World) (rs : List Nat) : Prop :=
  ∀ i ∈ rs, wpOp P ops Q i (fun a' w' => (i ∉ ds → S w → S w') ∧ wpAnyLast P md ops Q S ds fuel (listed.setIfInBounds i true) a' w') a w
theorem AllReadyL.nil {fuel : Nat} {listed : Array Bool} {a : Act} {w : World} : AllReadyL P md ops Q S ds fuel listed a w [] := fun _ h => by cases h
theorem AllReadyL.cons {fuel : Nat} {listed : Array Bool} {a : Act} {w : World} {i : Nat} {o : Oper} {rs : List Nat} (ho : ops[i]? = some o) (hd : i ∉ ds)
    (h : ∀ K' : Act → World → Prop, Shut (∀ a w, S w → (S w → wpAnyLast P md ops Q S ds fuel (listed.setIfInBounds i true) a w) → K' a w) → if Region.wanted o (yielded ops a.tmps) = true then Oper.wp P o a w K' Q else K' (a.put o.dst undef) w)
    (hs : AllReadyL P md ops Q S ds fuel listed a w rs) : AllReadyL P md ops Q S ds fuel listed a w (i :: rs) := fun j hj => by
  rcases List.mem_cons.1 hj with rfl | hj
  · exact wpOp_step ho (fun K' hK => h K' (fun a w hS hW => hK a w ⟨fun _ _ => hS, hW hS⟩))
  · exact hs j hj
end
end Go.Proofs.YtkcgokkgefgcjaaGreatDoorW.PrintLast
end
section
namespace Go.Proofs.YtkcgokkgefgcjaaGreatDoorW.PrintLast
end Go.Proofs.YtkcgokkgefgcjaaGreatDoorW.PrintLast
end
section
namespace Go.Proofs.YtkcgokkgefgcjaaGreatDoorW.PrintLast
end Go.Proofs.YtkcgokkgefgcjaaGreatDoorW.PrintLast
end
section
namespace Go.Proofs.YtkcgokkgefgcjaaGreatDoorW.PrintWords
end Go.Proofs.YtkcgokkgefgcjaaGreatDoorW.PrintWords
namespace Kd
end Kd
end
section
namespace Go.Proofs.YtkcgokkgefgcjaaGreatDoorW.PrintWords
open Go.RowKit
namespace Kd
/-- An element with its index: its blocks are those that f gives to it. -/
def tag {α : Type} (f : Nat → Nat) (d : Kd α) : Kd (α × Nat) where
  sz := d.sz
  E := d.E
  K := fun w x cs => d.K w x.1 cs
  M := fun w base ok x cs => d.M w base (fun k => ok k ∧ f k = x.2) x.1 cs
  K_len := fun h => d.K_len h
  K_one := fun h => d.K_one h
  K_below := fun hb h => d.K_below hb h
  K_of_M := fun h => d.K_of_M h
  M_mono := fun hok h => d.M_mono (fun k hk => ⟨hok k hk.1, hk.2⟩) h
  M_bound := fun h => d.M_mono (fun _ hk => ⟨⟨hk.1.1, hk.2⟩, hk.1.2⟩) (d.M_bound h)
  M_move := fun hm h => d.M_move (fun k hk => hm k hk.1) h
  M_lower := fun hb h => d.M_lower hb h
/-- The cells themselves. -/
def raw (sz : Nat) : Kd (List Value) where
  sz := sz
  E := []
  K := fun _ x cs => cs = x ∧ cs.length = sz ∧ ∀ u ∈ cs, u.oneCell' = true
  M := fun _ _ _ x cs => cs = x ∧ cs.length = sz ∧ ∀ u ∈ cs, u.oneCell' = true
  K_len := fun h => h.2.1
  K_one := fun h => h.2.2
  K_below := fun _ h => h
  K_of_M := fun h => h
  M_mono := fun _ h => h
  M_bound := fun h => h
  M_move := fun _ h => h
  M_lower := fun _ h => h
/-- A row of elements (type e) of the call's own, no two of which lead to one block. -/
def S {α : Type} (d : Kd α) (e : Nat) (w : World) (base : Nat) (ok : Nat → Prop) (v : Value) (xs : List α) : Prop := ∃ f, (tag f d).R e w base ok v xs.zipIdx
section
variable {α β : Type} {d : Kd α} {d' : Kd β} {e e' : Nat} {w w1 W : World} {base b : Nat} {ok ok' okv oku : Nat → Prop} {u v : Value} {xs : List α} {ys : List β}
end
section
variable {α β : Type} {d : Kd α} {d' : Kd β} {e e' g : Nat} {w w1 W : World} {base b : Nat} {ok ok' okv oku : Nat → Prop} {u v : Value} {xs : List α} {ys : List β}
end
section
variable {P : Program} {ops : Array Oper} {rest : List Oper} {o : Oper} {a : Act} {Q : Exit → Act → World → Prop} {Kc : Act → World → Prop} {α : Type}
end
/-- Element i is these cells; the others are d's. -/
def gap {α : Type} (f : Nat → Nat) (d : Kd α) (i : Nat) (c : List Value) : Kd (α × Nat) where
  sz := d.sz
  E := d.E
  K := fun w x cs => (x.2 = i → cs = c ∧ cs.length = d.sz ∧ ∀ u ∈ cs, u.oneCell' = true) ∧ (x.2 ≠ i → d.K w x.1 cs)
  M := fun w base ok x cs => (x.2 = i → cs = c ∧ cs.length = d.sz ∧ ∀ u ∈ cs, u.oneCell' = true) ∧ (x.2 ≠ i → d.M w base (fun k => ok k ∧ f k = x.2) x.1 cs)
  K_len := fun {w x cs} h => by
    by_cases hx : x.2 = i
    · exact (h.1 hx).2.1
    · exact d.K_len (h.2 hx)
  K_one := fun {w x cs} h => by
    by_cases hx : x.2 = i
    · exact (h.1 hx).2.2
    · exact d.K_one (h.2 hx)
  K_below := fun hb h => ⟨h.1, fun hx => d.K_below hb (h.2 hx)⟩
  K_of_M := fun h => ⟨h.1, fun hx => d.K_of_M (h.2 hx)⟩
  M_mono := fun hok h => ⟨h.1, fun hx => d.M_mono (fun k hk => ⟨hok k hk.1, hk.2⟩) (h.2 hx)⟩
  M_bound := fun h => ⟨h.1, fun hx => d.M_mono (fun _ hk => ⟨⟨hk.1.1, hk.2⟩, hk.1.2⟩) (d.M_bound (h.2 hx))⟩
  M_move := fun hm h => ⟨h.1, fun hx => d.M_move (fun k hk => hm k hk.1) (h.2 hx)⟩
  M_lower := fun hb h => ⟨h.1, fun hx => d.M_lower hb (h.2 hx)⟩
def H {α : Type} (d : Kd α) (e : Nat) (w : World) (base : Nat) (ok : Nat → Prop) (v : Value) (xs : List α) (i : Int) (oki : Nat → Prop) (c : List Value) : Prop :=
  (∀ k, oki k → ok k) ∧ ∃ f, (gap f d i.toNat c).R e w base (fun k => ok k ∧ ¬ oki k) v xs.zipIdx
section
variable {α β : Type} {d : Kd α} {e e' g n cap : Nat} {w w1 W : World} {base : Nat} {ok ok' oki okp : Nat → Prop} {u v : Value} {xs : List α} {i : Int} {c : List Value}
end
section
variable {P : Program} {ops : Array Oper} {rest : List Oper} {o : Oper} {a : Act} {Q : Exit → Act → World → Prop} {α : Type}
end
end Kd
end Go.Proofs.YtkcgokkgefgcjaaGreatDoorW.PrintWords
end
section
namespace Go.Proofs.YtkcgokkgefgcjaaGreatDoorW.PrintWords
end Go.Proofs.YtkcgokkgefgcjaaGreatDoorW.PrintWords
namespace Kd
end Kd
end
section
namespace Go.Proofs.YtkcgokkgefgcjaaGreatDoorW.PrintWords
end Go.Proofs.YtkcgokkgefgcjaaGreatDoorW.PrintWords
namespace Kd
end Kd
end
section
namespace Go.Proofs.YtkcgokkgefgcjaaGreatDoorW.PrintWords
open Go.RowKit
namespace Kd
/-- What a kind reads lies in the blocks: nothing else of the world is looked at. -/
structure Heap {α : Type} (d : Kd α) : Prop where
  K : ∀ {w w1 : World} {x : α} {cs : List Value}, (∀ k, k < w.heap.size → w1.heap[k]? = w.heap[k]?) → d.K w x cs → d.K w1 x cs
theorem cell_heap {w w1 : World} (hb : ∀ k, k < w.heap.size → w1.heap[k]? = w.heap[k]?) {a : Addr} {v : Value} (h : w.cell? a = some v) : w1.cell? a = some v := by
  have := hb a.block (World.block_lt_of_cell? w a h)
  simpa [World.cell?, this] using h
theorem Heap.C {α : Type} {d : Kd α} (hd : Heap d) {w w1 : World} {A : Option Addr} {n : Nat} {xs : List α} (hb : ∀ k, k < w.heap.size → w1.heap[k]? = w.heap[k]?) (h : d.C w A n xs) : d.C w1 A n xs :=
  ⟨h.1, h.2.1, fun hn => by
    obtain ⟨ad, e, hc⟩ := h.2.2 hn
    refine ⟨ad, e, fun j p hj => ?_⟩
    obtain ⟨c, hs, hr, hcell⟩ := hc j p hj
    exact ⟨c, hs, hd.K hb hr, fun i u hu => cell_heap hb (hcell i u hu)⟩⟩
section
variable {α : Type} {d : Kd α} {e base g n c : Nat} {ok : Nat → Prop} {w w0 W : World} {A : Option Addr} {xs : List α}
end
end Kd
end Go.Proofs.YtkcgokkgefgcjaaGreatDoorW.PrintWords
end
section
namespace Go.Proofs.YtkcgokkgefgcjaaGreatDoorW.PrintWords
open Go.RowKit
def Kept (w W : World) (S : Nat → Prop) : Prop := w.heap.size ≤ W.heap.size ∧ ∀ i, i < w.heap.size → ¬ S i → W.heap[i]? = w.heap[i]?
section
variable {w W W2 : World} {S S2 S' : Nat → Prop}
theorem Kept.refl (w : World) (S : Nat → Prop) : Kept w w S := ⟨Nat.le_refl _, fun _ _ _ => rfl⟩
theorem Kept.of_below (h : Below w.heap.size w W) (S : Nat → Prop) : Kept w W S := ⟨h.size, fun i hi _ => h.block i hi⟩
theorem Kept.mono (h : Kept w W S) (hs : ∀ k, S k → S' k) : Kept w W S' := ⟨h.1, fun i hi hn => h.2 i hi (fun hk => hn (hs i hk))⟩
theorem Kept.then_ (h : Kept w W S) (k : Kept W W2 S2) (hs : ∀ k, S2 k → S k ∨ w.heap.size ≤ k) : Kept w W2 S :=
  ⟨Nat.le_trans h.1 k.1, fun i hi hn => (k.2 i (Nat.lt_of_lt_of_le hi h.1) (fun h2 => (hs i h2).elim hn (fun h3 => by omega))).trans (h.2 i hi hn)⟩
theorem Kept.below (h : Kept w W S) (hb : Below W.heap.size W W2) : Kept w W2 S := h.then_ (Kept.of_below hb (fun _ => False)) (fun _ hk => hk.elim)
theorem Kept.alloc (h : Kept w W S) (o : Obj) : Kept w (W.alloc o) S := h.below (below_alloc (Below.refl _ _) o)
theorem Kept.drew (h : Kept w W S) : Kept w W.drew S := h
theorem Kept.drewN (h : Kept w W S) (m : Nat) : Kept w (W.drewN m) S := h
theorem Kept.setCell (h : Kept w W S) {p : Addr} (hp : S p.block ∨ w.heap.size ≤ p.block) (u : Value) : Kept w (W.setCell p u) S :=
  h.then_ (S2 := fun k => k = p.block) ⟨by simp [World.setCell], fun i _ hn => Below.heap_setCell W p u i hn⟩ (fun k hk => by rw [hk]; exact hp)
/-- Beside a state: what was written is new since. -/
theorem Kept.keep {g : Nat} (h : KeepBut w W g none) (k : Kept W W2 S2) (hs : ∀ k, S2 k → w.heap.size ≤ k) : KeepBut w W2 g none :=
  ⟨Nat.le_trans h.1 k.1, fun i hi hg hr => (k.2 i (Nat.lt_of_lt_of_le hi h.1) (fun h2 => by have := hs i h2; omega)).trans (h.2 i hi hg hr)⟩
end
namespace Kd
section
variable {α : Type} {d : Kd α} {e base n c : Nat} {ok oki S S2 : Nat → Prop} {w w0 W W1 W2 : World} {v : Value} {A : Option Addr} {xs : List α} {i : Int} {cs : List Value}
end
end Kd
end Go.Proofs.YtkcgokkgefgcjaaGreatDoorW.PrintWords
end
section
namespace Go.Proofs.YtkcgokkgefgcjaaGreatDoorW.PrintWords
open Go.RowKit
/-- P holds in W and in every world that has W's blocks of ok. -/
def Foot (P : World → Prop) (W : World) (ok : Nat → Prop) : Prop := ∀ W' : World, (∀ k, ok k → k < W.heap.size → W'.heap[k]? = W.heap[k]?) → P W'
theorem heap_lt {W W1 : World} {k : Nat} (h : W1.heap[k]? = W.heap[k]?) (hlt : k < W.heap.size) : k < W1.heap.size := by
  rw [Array.getElem?_eq_getElem hlt] at h
  exact (Array.getElem?_eq_some_iff.1 h).1
namespace Foot
variable {P Q : World → Prop} {W W1 : World} {ok ok' : Nat → Prop}
theorem now (h : Foot P W ok) : P W := h W (fun _ _ _ => rfl)
theorem mono (h : Foot P W ok) (hok : ∀ k, ok k → ok' k) : Foot P W ok' := fun W' hW => h W' (fun k hk hlt => hW k (hok k hk) hlt)
theorem bound (h : Foot P W ok) : Foot P W (fun k => ok k ∧ k < W.heap.size) := fun W' hW => h W' (fun k hk hlt => hW k ⟨hk, hlt⟩ hlt)
theorem step (h : Foot P W ok) (hm : ∀ k, ok k → k < W.heap.size → W1.heap[k]? = W.heap[k]?) : Foot P W1 ok := fun W' hW => h W' (fun k hk hlt => (hW k hk (heap_lt (hm k hk hlt) hlt)).trans (hm k hk hlt))
theorem imp (h : Foot P W ok) (hi : ∀ W', P W' → Q W') : Foot Q W ok := fun W' hW => hi W' (h W' hW)
/-- Moved, and still elder than what is new since W. -/
theorem old (h : Foot P W ok) (hb : Below W.heap.size W W1) : Foot P W1 (fun k => ok k ∧ k < W.heap.size) := (h.bound).step (fun k _ hlt => hb.block k hlt)
end Foot
namespace Kd
/-- A row that is only read: what it leads to lies in ok. -/
def F {α : Type} (d : Kd α) (W : World) (ok : Nat → Prop) (A : Option Addr) (n : Nat) (xs : List α) : Prop := Foot (fun W => d.C W A n xs) W ok
/-- An element's cells: what they lead to lies in ok. -/
def FK {α : Type} (d : Kd α) (W : World) (ok : Nat → Prop) (x : α) (c : List Value) : Prop := Foot (fun W => d.K W x c) W ok
section
variable {α β : Type} {d : Kd α} {e base n n' cc g N : Nat} {ok ok' okp S : Nat → Prop} {w w0 w1 W W1 : World} {A A' : Option Addr} {u v v1 : Value} {xs : List α} {xs' : List β} {d' : Kd β} {x : α} {c : List Value}
end
end Kd
end Go.Proofs.YtkcgokkgefgcjaaGreatDoorW.PrintWords
end
section
namespace Go.Proofs.YtkcgokkgefgcjaaGreatDoorW.PrintWords
open Go.RowKit
namespace Kd
section
variable {α : Type} {d : Kd α} {e base n cc g : Nat} {ok ok' okp S : Nat → Prop} {w w1 W W1 : World} {A : Option Addr} {u v v1 : Value} {xs : List α} {x : α} {c : List Value}
/-- A row of elements (type e) of the call's own; what the elements lead to is only read, and is not this row. -/
def N {α : Type} (d : Kd α) (e : Nat) (w : World) (base : Nat) (ok : Nat → Prop) (v : Value) (xs : List α) : Prop :=
  (∀ k, v.ownBlock = some k → ok k) ∧ ∃ rows : List (List Value), rows.length = xs.length ∧ (raw d.sz).R e w base (fun k => some k = v.ownBlock) v rows ∧ ∀ (j : Nat) (x : α) (c : List Value), xs[j]? = some x → rows[j]? = some c → FK d w (fun k => ok k ∧ some k ≠ v.ownBlock) x c
end
end Kd
end Go.Proofs.YtkcgokkgefgcjaaGreatDoorW.PrintWords
end
section
namespace Go.Proofs.YtkcgokkgefgcjaaGreatDoorW.PrintWords
end Go.Proofs.YtkcgokkgefgcjaaGreatDoorW.PrintWords
namespace Kd
end Kd
end
section
namespace Go.Proofs.YtkcgokkgefgcjaaGreatDoorW.PrintWords
end Go.Proofs.YtkcgokkgefgcjaaGreatDoorW.PrintWords
namespace Kd
end Kd
end
section
namespace Go.Proofs.YtkcgokkgefgcjaaGreatDoorW.PrintWords
end Go.Proofs.YtkcgokkgefgcjaaGreatDoorW.PrintWords
end
section
namespace Go.Proofs.YtkcgokkgefgcjaaGreatDoorW.PrintWords
/-- One cell an element. -/
theorem Reps.one {α : Type} {R : α → List Value → Prop} {ps : List α} {cs : List Value} {p : α} {v : Value} (hp : R p [v]) (h : Reps R 1 ps cs) : Reps R 1 (p :: ps) (v :: cs) := by
  refine ⟨by simp [h.1], fun j q hq => ?_⟩
  cases j with
  | zero =>
    simp only [List.getElem?_cons_zero, Option.some.injEq] at hq
    subst hq
    simpa using hp
  | succ j =>
    simp only [List.getElem?_cons_succ] at hq
    have h1 := h.2 j q hq
    simpa [Nat.mul_one] using h1
/-- More cells an element: told apart by the cells' list. -/
theorem Reps.front {α : Type} {R : α → List Value → Prop} {size : Nat} {ps : List α} {cs c all : List Value} {p : α} (hp : R p c) (hc : c.length = size) (h : Reps R size ps cs) (ha : c ++ cs = all) : Reps R size (p :: ps) all := by
  subst ha
  refine ⟨by rw [List.length_append, hc, h.1, List.length_cons, Nat.succ_mul, Nat.add_comm], fun j q hq => ?_⟩
  cases j with
  | zero =>
    simp only [List.getElem?_cons_zero, Option.some.injEq] at hq
    subst hq
    rw [Nat.zero_mul, List.drop_zero, List.take_append_of_le_length (by omega), List.take_of_length_le (by omega)]
    exact hp
  | succ j =>
    simp only [List.getElem?_cons_succ] at hq
    have h1 := h.2 j q hq
    rw [Nat.succ_mul, List.drop_append, List.drop_of_length_le (by rw [hc]; exact Nat.le_add_left _ _), List.nil_append, hc, Nat.add_sub_cancel]
    exact h1
theorem Reps.c2 {α : Type} {R : α → List Value → Prop} {ps : List α} {cs : List Value} {p : α} {va vb : Value} (hp : R p [va, vb]) (h : Reps R 2 ps cs) : Reps R 2 (p :: ps) (va :: vb :: cs) := Reps.front hp rfl h rfl
theorem Reps.c3 {α : Type} {R : α → List Value → Prop} {ps : List α} {cs : List Value} {p : α} {va vb vc : Value} (hp : R p [va, vb, vc]) (h : Reps R 3 ps cs) : Reps R 3 (p :: ps) (va :: vb :: vc :: cs) := Reps.front hp rfl h rfl
theorem Reps.c4 {α : Type} {R : α → List Value → Prop} {ps : List α} {cs : List Value} {p : α} {va vb vc vd : Value} (hp : R p [va, vb, vc, vd]) (h : Reps R 4 ps cs) : Reps R 4 (p :: ps) (va :: vb :: vc :: vd :: cs) := Reps.front hp rfl h rfl
theorem Reps.c5 {α : Type} {R : α → List Value → Prop} {ps : List α} {cs : List Value} {p : α} {va vb vc vd ve : Value} (hp : R p [va, vb, vc, vd, ve]) (h : Reps R 5 ps cs) : Reps R 5 (p :: ps) (va :: vb :: vc :: vd :: ve :: cs) := Reps.front hp rfl h rfl
theorem Reps.c6 {α : Type} {R : α → List Value → Prop} {ps : List α} {cs : List Value} {p : α} {va vb vc vd ve vf : Value} (hp : R p [va, vb, vc, vd, ve, vf]) (h : Reps R 6 ps cs) : Reps R 6 (p :: ps) (va :: vb :: vc :: vd :: ve :: vf :: cs) := Reps.front hp rfl h rfl
theorem Reps.c7 {α : Type} {R : α → List Value → Prop} {ps : List α} {cs : List Value} {p : α} {va vb vc vd ve vf vg : Value} (hp : R p [va, vb, vc, vd, ve, vf, vg]) (h : Reps R 7 ps cs) : Reps R 7 (p :: ps) (va :: vb :: vc :: vd :: ve :: vf :: vg :: cs) := Reps.front hp rfl h rfl
theorem Reps.c8 {α : Type} {R : α → List Value → Prop} {ps : List α} {cs : List Value} {p : α} {va vb vc vd ve vf vg vh : Value} (hp : R p [va, vb, vc, vd, ve, vf, vg, vh]) (h : Reps R 8 ps cs) : Reps R 8 (p :: ps) (va :: vb :: vc :: vd :: ve :: vf :: vg :: vh :: cs) := Reps.front hp rfl h rfl
theorem Reps.c9 {α : Type} {R : α → List Value → Prop} {ps : List α} {cs : List Value} {p : α} {va vb vc vd ve vf vg vh vi : Value} (hp : R p [va, vb, vc, vd, ve, vf, vg, vh, vi]) (h : Reps R 9 ps cs) : Reps R 9 (p :: ps) (va :: vb :: vc :: vd :: ve :: vf :: vg :: vh :: vi :: cs) := Reps.front hp rfl h rfl
theorem Reps.c10 {α : Type} {R : α → List Value → Prop} {ps : List α} {cs : List Value} {p : α} {va vb vc vd ve vf vg vh vi vj : Value} (hp : R p [va, vb, vc, vd, ve, vf, vg, vh, vi, vj]) (h : Reps R 10 ps cs) : Reps R 10 (p :: ps) (va :: vb :: vc :: vd :: ve :: vf :: vg :: vh :: vi :: vj :: cs) := Reps.front hp rfl h rfl
end Go.Proofs.YtkcgokkgefgcjaaGreatDoorW.PrintWords
end
section
namespace Go.Proofs.YtkcgokkgefgcjaaGreatDoorW.PrintLast
/-- Number i is listed too. -/
def up (b : Nat → Bool) (i : Nat) : Nat → Bool := fun j => if j = i then true else b j
section
variable {P : Program} {ops : Array Oper} {Q : Exit → Act → World → Prop} {md : Region.Mode} {T : Bool × List (List Nat × List Nat)} {B : List Nat} {O : List Nat} {b : Nat → Bool} {i j n : Nat}
end
end Go.Proofs.YtkcgokkgefgcjaaGreatDoorW.PrintLast
end
section
namespace Go.Proofs.YtkcgokkgefgcjaaGreatDoorW.PrintWords
end Go.Proofs.YtkcgokkgefgcjaaGreatDoorW.PrintWords
namespace Go.Proofs.YtkcgokkgefgcjaaGreatDoorW.PrintLast
end Go.Proofs.YtkcgokkgefgcjaaGreatDoorW.PrintLast
end
section
namespace Go.Proofs.YtkcgokkgefgcjaaGreatDoorW.PrintWords
end Go.Proofs.YtkcgokkgefgcjaaGreatDoorW.PrintWords
end
section
namespace Go.Proofs.YtkcgokkgefgcjaaGreatDoorW.PrintWords
end Go.Proofs.YtkcgokkgefgcjaaGreatDoorW.PrintWords
namespace Kd
end Kd
end
section
namespace Go.Proofs.YtkcgokkgefgcjaaGreatDoorW.PrintMore
open Go.RowKit Go.Proofs.YtkcgokkgefgcjaaGreatDoorW.PrintWords
namespace Kd
open Go.Proofs.YtkcgokkgefgcjaaGreatDoorW.PrintWords.Kd
end Kd
namespace Kd
open Go.Proofs.YtkcgokkgefgcjaaGreatDoorW.PrintWords.Kd
section
variable {α : Type} {d : Kd α} {e base g N : Nat} {ok : Nat → Prop} {W w1 : World} {u v : Value} {xs : List α}
end
end Kd
end Go.Proofs.YtkcgokkgefgcjaaGreatDoorW.PrintMore
namespace Go.Proofs.YtkcgokkgefgcjaaGreatDoorW.PrintWords
open Go.RowKit
section
variable {P : Program} {ops : Array Oper} {rest : List Oper} {o : Oper} {a : Act} {Q : Exit → Act → World → Prop} {W : World}
end
/-- The greater of two whole numbers, as Go's max tells it. -/
def mx (a b : Int) : Int := if a < b then b else a
/-- A shift to the left, as Go tells it: a count beyond the width leaves nothing. -/
def shl (k : IntKind) (x y : Int) : Int := k.wrap (x * 2 ^ min y.toNat k.bits)
/-- A shift to the right: a count beyond the width leaves the sign. -/
def shr (k : IntKind) (x y : Int) : Int := x / 2 ^ min y.toNat k.bits
namespace Kd
section
variable {α : Type} {d : Kd α} {e base : Nat} {ok : Nat → Prop} {W w1 : World} {v : Value} {xs : List α}
end
section
variable {α : Type} {d : Kd α} {e base g n cap : Nat} {ok oki okp : Nat → Prop} {W : World} {xs : List α} {i : Int} {c : List Value}
end
section
variable {α : Type} {d : Kd α} {e base b b' g N : Nat} {ok ok1 : Nat → Prop} {W W2 w1 : World} {u v : Value} {xs ys : List α} {S : Nat → Prop}
end
end Kd
end Go.Proofs.YtkcgokkgefgcjaaGreatDoorW.PrintWords
namespace Go.Proofs.YtkcgokkgefgcjaaGreatDoorW.PrintWords
open Go.RowKit
namespace Kd
section
variable {α β : Type} {d : Kd α} {e base base' n m c g N' lo hi : Nat} {ok ok' S : Nat → Prop} {w W w1 : World} {A : Option Addr} {ad : Addr} {u v v1 : Value} {xs : List α}
end
end Kd
end Go.Proofs.YtkcgokkgefgcjaaGreatDoorW.PrintWords
end
section
namespace Go.Proofs.YtkcgokkgefgcjaaGreatDoor.CK
open Go.RowKit Go.Proofs.YtkcgokkgefgcjaaGreatDoorW.PrintWords Go.Proofs.YtkcgokkgefgcjaaGreatDoorW.PrintLast Go.Proofs.YtkcgokkgefgcjaaGreatDoorW.PrintMore
set_option linter.unusedVariables false
structure S35 where
  f0 : Int
  f1 : ByteArray
  f2 : (List ByteArray)
  f3 : Int
  f4 : Int
def k35 : Kd S35 := Kd.iso (Kd.pair (Kd.int .i64) (Kd.pair Kd.string (Kd.pair (Kd.slice 9 Kd.string) (Kd.pair (Kd.int .i64) (Kd.int .i64))))) (fun x : S35 => (x.f0, x.f1, x.f2, x.f3, x.f4))
end Go.Proofs.YtkcgokkgefgcjaaGreatDoor.CK
end
section
namespace Go.Proofs.YtkcgokkgefgcjaaGreatDoor.AS
open Go.Proofs.YtkcgokkgefgcjaaGreatDoor.H Go.RowKit Go.Proofs.YtkcgokkgefgcjaaGreatDoorW.PrintWords Go.Proofs.YtkcgokkgefgcjaaGreatDoor.CK
set_option linter.unusedVariables false
set_option linter.unusedSimpArgs false
theorem br_congr {α : Type} {d : Kd α} {e e' : α → List HV} (h : Br d e) (he : ∀ x, e x = e' x) : Br d e' := by
  have : e = e' := funext he
  rw [← this]; exact h
def toBy (s : ByteArray) : By := s.data.toList
theorem strV_to (s : ByteArray) : strV (toBy s) = .lit (.string s) := by
  obtain ⟨⟨l⟩⟩ := s
  rfl
theorem toBy_len (s : ByteArray) : (toBy s).length = s.size := by
  obtain ⟨⟨l⟩⟩ := s
  rfl
theorem flat_map {α β γ : Type} (l : List α) (f : α → β) (g : β → List γ) : (l.map f).flatMap g = l.flatMap fun x => g (f x) := List.flatMap_map f g l
def toStep (x : S35) : Step := ⟨x.f0, toBy x.f1, some (x.f2.map toBy), x.f3, x.f4⟩
theorem br35 : Br k35 (fun x => stepC (toStep x)) := by
  refine br_congr (Br.iso (Br.pair (Br.int .i64) (Br.pair Br.string (Br.pair (Br.slice 9 Br.string) (Br.pair (Br.int .i64) (Br.int .i64))))) (fun x : S35 => (x.f0, x.f1, x.f2, x.f3, x.f4))) ?_
  intro x
  have e1 : rows strC (x.f2.map toBy) = x.f2.flatMap fun b => [.lit (.string b)] := by
    rw [show rows strC (x.f2.map toBy) = x.f2.flatMap fun b => strC (toBy b) from flat_map _ _ _]
    exact congrArg (fun f => x.f2.flatMap f) (funext fun b => congrArg (fun v => [v]) (strV_to b))
  show _ = [.lit (.int .i64 x.f0), strV (toBy x.f1), .list 1 (x.f2.map toBy).length (rows strC (x.f2.map toBy)) false, .lit (.int .i64 x.f3), .lit (.int .i64 x.f4)]
  rw [strV_to, e1, List.length_map]
  rfl
theorem repSteps {w : World} {A : Option Addr} {c : Nat} {l : List S35} (hr : Kd.C k35 w A l.length l) (hc : l.length ≤ c) : Rep (H.m0 w) (rowL stepC 5 (l.map toStep)) (.slice A l.length c) := by
  have := br35.row hr hc
  have e1 : rows stepC (l.map toStep) = l.flatMap fun x => stepC (toStep x) := flat_map _ _ _
  have e2 : (l.map toStep).length = l.length := List.length_map ..
  unfold rowL
  rw [e1, e2]
  exact this
theorem stIn_of {l : List S35} (q : (l.length ≤ maxLen ∧ ∀ x_ ∈ l, ((Lit.int .i64 x_.f0).wf = true ∧ x_.f1.size ≤ maxLen ∧ (x_.f2.length ≤ maxLen ∧ ∀ x__ ∈ x_.f2, x__.size ≤ maxLen) ∧ (Lit.int .i64 x_.f3).wf = true ∧ (Lit.int .i64 x_.f4).wf = true))) : StIn (l.map toStep) := by
  refine ⟨by rw [List.length_map]; exact q.1, ?_, ?_⟩
  · intro m hm
    obtain ⟨x, hx, rfl⟩ := List.mem_map.1 hm
    show (toBy x.f1).length ≤ _
    rw [toBy_len]
    exact (q.2 x hx).2.1
  · intro m hm
    obtain ⟨x, hx, rfl⟩ := List.mem_map.1 hm
    refine ⟨by show (x.f2.map toBy).length ≤ _; rw [List.length_map]; exact (q.2 x hx).2.2.1.1, fun y hy => ?_⟩
    obtain ⟨z, hz, rfl⟩ := List.mem_map.1 (show y ∈ x.f2.map toBy from hy)
    rw [toBy_len]
    exact (q.2 x hx).2.2.1.2 z hz
end Go.Proofs.YtkcgokkgefgcjaaGreatDoor.AS
end
section
namespace Go.Proofs.YtkcgokkgefgcjaaGreatDoor.RPW
open Go.Proofs.YtkcgokkgefgcjaaGreatDoor.H Go.RowKit Go.Proofs.YtkcgokkgefgcjaaGreatDoorW.PrintWords Go.Proofs.YtkcgokkgefgcjaaGreatDoorW.PrintLast Go.Proofs.YtkcgokkgefgcjaaGreatDoorW.PrintMore Go.Proofs.YtkcgokkgefgcjaaGreatDoor.CK
set_option linter.unusedVariables false
theorem groupPlays_walk (a0 : Int) (a1 : Int) (a2 : Int) (a3 : Bool) (a4 : Int) (A5 : Option Addr) (c5 : Nat) (l5 : List (S35)) (w : World) (hc5 : l5.length ≤ c5) (hr5 : Kd.C k35 w A5 l5.length l5) (q0 : (Lit.int .i64 a0).wf = true) (q1 : (Lit.int .i64 a1).wf = true) (q2 : (Lit.int .i64 a2).wf = true) (q4 : (Lit.int .i64 a4).wf = true) (q5 : (l5.length ≤ maxLen ∧ ∀ x_ ∈ l5, ((Lit.int .i64 x_.f0).wf = true ∧ x_.f1.size ≤ maxLen ∧ (x_.f2.length ≤ maxLen ∧ ∀ x__ ∈ x_.f2, x__.size ≤ maxLen) ∧ (Lit.int .i64 x_.f3).wf = true ∧ (Lit.int .i64 x_.f4).wf = true))) :
    Calls Tryz.prog 3 #[.int .i64 a0, .int .i64 a1, .int .i64 a2, .bool a3, .int .i64 a4, .slice A5 l5.length c5] w fun e w' => e = .returned (.bool true) ∧ Below w.heap.size w w' := by
  refine law_of (AS.plays_law a0 a1 a2 a3 a4 (l5.map AS.toStep) (AS.stIn_of q5) (fun x hx => ?_) s0) rfl ?_
  · obtain ⟨y, -, rfl⟩ := List.mem_map.1 hx
    exact ⟨_, rfl⟩
  intro j x hj
  rcases j with _ | _ | _ | _ | _ | _ | j <;> simp at hj
  · subst hj; exact .lit _
  · subst hj; exact .lit _
  · subst hj; exact .lit _
  · subst hj; exact .lit _
  · subst hj; exact .lit _
  · subst hj; exact AS.repSteps hr5 hc5
end Go.Proofs.YtkcgokkgefgcjaaGreatDoor.RPW
end
section
namespace Go.Proofs.YtkcgokkgefgcjaaGreatDoorW.Opens
open Go.RowKit Go.WideShapes Go.Proofs.YtkcgokkgefgcjaaGreatDoorW.PrintWords
/-- Whatever can be read as a value of type t is a value of kind d, of which Q holds. -/
def Opens (P : Program) (t : TypeId) {α : Type} (d : Kd α) (Q : α → Prop) : Prop :=
  ∀ {H : Type} (enc : TypeId × Value → H) (w : World) (base : Nat) (spare : Nat → Bool) (held : Bool) (fuel : Nat) (cs : List Value) (x : DataW H × List MemPlace),
    DataW.trod enc P w base spare held fuel t cs = some x → ∃ a : α, d.K w a cs ∧ Q a
variable {P : Program} {α β : Type}
theorem opens_int {t : TypeId} {k : IntKind} (ht : P.underlying t = some (.int k)) : Opens P t (Kd.int k) (fun n => (Lit.int k n).wf = true) := by
  intro H enc w base spare held fuel cs x h
  obtain ⟨n, rfl, _, hw⟩ := DataW.trod_int ht h
  exact ⟨n, rfl, hw⟩
theorem opens_string {t : TypeId} (ht : P.underlying t = some .string) : Opens P t Kd.string (fun s => s.size ≤ maxLen) := by
  intro H enc w base spare held fuel cs x h
  obtain ⟨s, rfl, _, hs⟩ := DataW.trod_string ht h
  exact ⟨s, rfl, hs⟩
theorem add_of_add (a : Addr) (i j : Nat) : (a.add i).add j = a.add (i + j) := by
  unfold Addr.add
  by_cases hi : i = 0 <;> by_cases hj : j = 0 <;> simp [hi, hj, Nat.add_assoc]
theorem opens_slice {t e : TypeId} (n : Nat) (ht : P.underlying t = some (.slice e)) {d : Kd α} {Q : α → Prop} (hs : P.cellsOf e = d.sz) (he : Opens P e d Q) :
    Opens P t (Kd.slice n d) (fun l => l.length ≤ maxLen ∧ ∀ x ∈ l, Q x) := by
  intro H enc w base spare held fuel cs x h
  rcases DataW.trod_slice ht h with ⟨rfl, _⟩ | ⟨a, len, cap, elems, rest, n', _, rfl, _, _, hl, hm, hlen, hel, _, _⟩
  · exact ⟨[], ⟨none, 0, rfl, Nat.le_refl _, Kd.C_nil _ _⟩, by simp, fun x hx => by simp at hx⟩
  · have each : ∀ i : Fin len, ∃ (x : α) (c : List Value), d.K w x c ∧ Q x ∧ ∀ j u, c[j]? = some u → w.cell? (a.add (i.val * d.sz + j)) = some u := by
      intro i
      have h1 := hel i.val i.isLt
      rw [List.getElem?_eq_getElem (by omega), Option.bind_eq_some_iff] at h1
      obtain ⟨c, hc, hy⟩ := h1
      obtain ⟨x, hK, hQ⟩ := he enc w base spare held n' c _ hy
      obtain ⟨_, hcl, hcc⟩ := World.cells?_some hc
      refine ⟨x, c, hK, hQ, fun j u hu => ?_⟩
      have hj : j < c.length := by
        rcases Nat.lt_or_ge j c.length with hlt | hge
        · exact hlt
        · rw [List.getElem?_eq_none hge] at hu; cases hu
      have := hcc j (by omega)
      rw [add_of_add, hs] at this
      rw [this, hu]
    let f : Fin len → α := fun i => Classical.choose (each i)
    have hf : ∀ i : Fin len, ∃ c : List Value, d.K w (f i) c ∧ Q (f i) ∧ ∀ j u, c[j]? = some u → w.cell? (a.add (i.val * d.sz + j)) = some u := fun i => Classical.choose_spec (each i)
    have hlen' : (List.ofFn f).length = len := List.length_ofFn
    have hget : ∀ j p, (List.ofFn f)[j]? = some p → ∃ hj : j < len, p = f ⟨j, hj⟩ := by
      intro j p hp
      have hj : j < len := by
        rcases Nat.lt_or_ge j len with hlt | hge
        · exact hlt
        · rw [List.getElem?_eq_none (by omega)] at hp; cases hp
      rw [List.getElem?_eq_getElem (by omega), List.getElem_ofFn] at hp
      exact ⟨hj, (Option.some.inj hp).symm⟩
    refine ⟨List.ofFn f, ⟨some a, cap, by rw [hlen'], by omega, hlen'.symm ▸ ?_⟩, by omega, ?_⟩
    · refine ⟨hlen', ?_, fun _ => ⟨a, rfl, fun j p hp => ?_⟩⟩
      · unfold maxLen at hm; omega
      · obtain ⟨hj, rfl⟩ := hget j p hp
        obtain ⟨c, hK, _, hc⟩ := hf ⟨j, hj⟩
        exact ⟨c, d.K_len hK, hK, fun i u hu => hc i u hu⟩
    · intro x hx
      obtain ⟨j, hj⟩ := List.getElem?_of_mem hx
      obtain ⟨hj', rfl⟩ := hget j x hj
      exact (hf ⟨j, hj'⟩).choose_spec.2.1
/-- The fields of a struct from the one at offset o on. -/
def OpensF (P : Program) (o : Nat) (fs : List Field) (d : Kd α) (Q : α → Prop) : Prop :=
  ∀ {H : Type} (enc : TypeId × Value → H) (w : World) (base : Nat) (spare : Nat → Bool) (held : Bool) (fuel : Nat) (cs : List Value),
    (∀ f ∈ fs, ∃ x, DataW.trod enc P w base spare held fuel f.type ((cs.drop f.offset).take (P.cellsOf f.type)) = some x) → cs.length = o + d.sz → ∃ a : α, d.K w a (cs.drop o) ∧ Q a
theorem opensF_one {o : Nat} {f : Field} {d : Kd α} {Q : α → Prop} (ho : f.offset = o) (hs : P.cellsOf f.type = d.sz) (h : Opens P f.type d Q) : OpensF P o [f] d Q := by
  intro H enc w base spare held fuel cs hx hl
  obtain ⟨x, hx⟩ := hx f (by simp)
  rw [ho, hs, List.take_of_length_le (by simp; omega)] at hx
  exact h enc w base spare held fuel _ x hx
theorem opensF_cons {o : Nat} {f : Field} {fs : List Field} {d : Kd α} {d' : Kd β} {Q : α → Prop} {Q' : β → Prop} (ho : f.offset = o) (hs : P.cellsOf f.type = d.sz) (h : Opens P f.type d Q) (hr : OpensF P (o + d.sz) fs d' Q') :
    OpensF P o (f :: fs) (Kd.pair d d') (fun x => Q x.1 ∧ Q' x.2) := by
  intro H enc w base spare held fuel cs hx hl
  have hl' : cs.length = o + (d.sz + d'.sz) := hl
  obtain ⟨x, hx1⟩ := hx f (by simp)
  rw [ho, hs] at hx1
  obtain ⟨a, ha, hq⟩ := h enc w base spare held fuel _ x hx1
  obtain ⟨b, hb, hq'⟩ := hr enc w base spare held fuel cs (fun g hg => hx g (by simp [hg])) (by omega)
  refine ⟨(a, b), ⟨_, _, ?_, ha, hb⟩, hq, hq'⟩
  rw [← List.drop_drop, List.take_append_drop]
theorem opens_struct {t : TypeId} {fs : Array Field} (ht : P.underlying t = some (.struct fs)) {d : Kd α} {Q : α → Prop} (hs : P.cellsOf t = d.sz) (h : OpensF P 0 fs.toList d Q) : Opens P t d Q := by
  intro H enc w base spare held fuel cs x hx
  obtain ⟨xs, n, _, _, hl, hxl, hf⟩ := DataW.trod_struct ht hx
  obtain ⟨a, ha, hq⟩ := h enc w base spare held n cs (fun f hm => by
    obtain ⟨i, hi⟩ := List.getElem?_of_mem hm
    have hi' : fs[i]? = some f := by rw [← hi, Array.getElem?_toList]
    have hlt : i < fs.size := by
      rcases Nat.lt_or_ge i fs.size with hlt | hge
      · exact hlt
      · rw [Array.getElem?_eq_none hge] at hi'; cases hi'
    rw [hf i f hi']
    exact ⟨_, List.getElem?_eq_getElem (by omega)⟩) (by omega)
  exact ⟨a, ha, hq⟩
theorem opens_iso {t : TypeId} {d : Kd α} {Q : α → Prop} (f : β → α) (g : α → β) (hg : ∀ a, f (g a) = a) (h : Opens P t d Q) : Opens P t (Kd.iso d f) (fun b => Q (f b)) := by
  intro H enc w base spare held fuel cs x hx
  obtain ⟨a, ha, hq⟩ := h enc w base spare held fuel cs x hx
  exact ⟨g a, (show d.K w (f (g a)) cs by rw [hg]; exact ha), (show Q (f (g a)) by rw [hg]; exact hq)⟩
/-- A parameter that is a slice. -/
theorem open_slice {t e : TypeId} {n : Nat} {d : Kd α} {Q : List α → Prop} (ht : P.underlying t = some (.slice e)) (h : Opens P t (Kd.slice n d) Q) {H : Type} {enc : TypeId × Value → H} {w : World} {base base' : Nat} {spare : Nat → Bool} {held : Bool} {r : Reach} {v : Value} {x : DataW H} {ps : List MemPlace}
    (hv : Value.okWide P w r base' t v) (hx : DataW.Trod enc P w base spare held t v x ps) : ∃ (A : Option Addr) (c : Nat) (l : List α), v = .slice A l.length c ∧ l.length ≤ c ∧ d.C w A l.length l ∧ Q l := by
  obtain ⟨a, len, cap, rfl⟩ := okWide_slice ht hv
  obtain ⟨fuel, hf⟩ := hx
  obtain ⟨l, ⟨A, c, hc, hl, hC⟩, hQ⟩ := h enc w base spare held fuel _ _ hf
  have : (Value.slice a len cap) = .slice A l.length c := by simpa [Value.cells] using hc
  exact ⟨A, c, l, this, hl, hC, hQ⟩
end Go.Proofs.YtkcgokkgefgcjaaGreatDoorW.Opens
end
