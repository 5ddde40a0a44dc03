/- What the proof of the law GroupSessions needs, cut out of the session's own texts by a program (slim.py): part 5. -/
import Derived.Test.YtkcgokkgefgcjaaDoorQGroupSessionsd
section
namespace Go.Proofs.YtkcgokkgefgcjaaDoor.AS
open Go.Proofs.YtkcgokkgefgcjaaDoor.H Go.Proofs.YtkcgokkgefgcjaaDoor.G0
set_option linter.unusedVariables false
set_option linter.unusedSimpArgs false
set_option maxRecDepth 100000
section
variable {b s : HS} {g : Nat} {G : GG} {all A : HV} {ps : List (Nat × GM)} {o : Option DD} {K : Nat}
theorem nil_pt (ps : List (Nat × GM)) (x : Option Nat) : vCmp (Tryd.prog.underlying 69) .eql (ptrAt ps x) (.lit (.pointer none)) = some (.lit (.bool (decide (x = none)))) := by
  cases x with
  | none => rw [ptrAt, eqn69]; rfl
  | some i => rw [ptrAt, eqp69]; rfl
theorem join10 (h : IsG b s g G) (hb : Bd K G) (hk : K + 3 ≤ 1000000) {a : HV} {al : List Top} (ha : ARow a al) (hal : al.length ≤ 1000) {now : Int} (hn : now ≤ 1125899906842624) (hg : 0 ≤ G.given ∧ G.given < 99) (id : By) (ot : Option (List By)) (hot : (ot.getD []).length ≤ 1000000) :
    HC Tryd.prog 10 [.ptr g 0, strV id, rowV strC 1 ot, a, .lit (.int .i64 now)] s (fun v t => IsG b t g (G.join id (ot.getD []) al now).1 ∧ v = .tup [strV (G.join id (ot.getD []) al now).2.1, .lit (.int .i64 (G.join id (ot.getD []) al now).2.2.1), .lit (.int .i64 (G.join id (ot.getD []) al now).2.2.2)]) := by
  obtain ⟨b1, all, A, ps, o, h1, h2, h3⟩ := h
  refine HC10 ?_
  unfold c10
  simp only [eqp23, bindO, hcond]
  refine (tick17 h3 hb (by omega) ha hal hn).mono ?_
  rintro _ t1 ⟨b2, all2, A2, ps2, o2, k1, k2, k3⟩
  have hb1 : Bd (K + 1) (G.tick al now) := (hb.setAll hal).goes (by omega) hn
  have hall1 : (G.tick al now).all = al := goes_all _ _
  have hg1 : (G.tick al now).given = G.given := given_goes _ _
  have hle : HS.le b b2 := HS.le.trans h1 k1
  unfold GG.join
  generalize G.tick al now = G1 at *
  rw [← hg1] at hg
  rw [← hall1] at k2
  clear h1 h2 h3 hg1 k1 ps o A all hall1
  refine (find27 k3 (hb1.pslen k3) id).mono ?_
  rintro _ t ⟨rfl, rfl⟩
  rw [show vLenT (Tryd.prog.underlying 32) t (rowV strC 1 ot) = some (.lit (.int .i64 (((ot.getD []).length : Nat) : Int))) from len_rowV ot t]
  simp only [gtr_n]
  unfold GG.join1
  by_cases hlen : 30 < (ot.getD []).length
  · simp only [show decide ((30 : Int) < ((ot.getD []).length : Int)) = true from by simp; omega, hlen, if_true]
    exact ⟨k3.is hle k2, by trivial⟩
  simp only [show decide ((30 : Int) < ((ot.getD []).length : Int)) = false from by simp; omega, hlen, if_false]
  have hA2 : ∀ u, vLenT (Tryd.prog.underlying 66) u A2 = some (.lit (.int .i64 (ps2.length : Int))) := fun u => k3.acc.len _ _
  refine Join.of (fun xs u => u = t ∧ xs = [.lit (.bool (decide (id = [] ∧ 20 ≤ G1.l.length)))]) ?_ ?_
  rotate_left
  · intro K8 hK8
    rw [show (HV.lit (.string { data := #[] })) = strV [] from rfl]
    simp only [eql_s]
    by_cases hid : id = []
    · simp only [hid, decide_true, hvNil, hvFld, k3.ld, gC, List.getElem?_cons_succ, List.getElem?_cons_zero, hA2, geq_n]
      refine hK8 _ _ ⟨rfl, ?_⟩
      rw [k3.len]
      congr 3
      simp [hid]
      omega
    · simp only [hid, decide_false]
      exact hK8 _ _ ⟨rfl, by simp [hid]⟩
  rintro _ u ⟨rfl, rfl⟩
  simp only [List.headD_cons]
  by_cases hfull : id = [] ∧ 20 ≤ G1.l.length
  · simp only [hfull, decide_true, if_true, and_self]
    exact ⟨k3.is hle k2, by trivial⟩
  rw [if_neg hfull, show decide (id = [] ∧ 20 ≤ G1.l.length) = false from decide_eq_false hfull]
  simp only
  refine Join.of (fun xs t => t = u ∧ xs = [.lit (.bool (decide (id ≠ [] ∧ G1.at_ id = none)))]) ?_ ?_
  rotate_left
  · intro K17 hK17
    rw [show (HV.lit (.string { data := #[] })) = strV [] from rfl]
    simp only [neq_s]
    by_cases hid : id = []
    · simp only [hid, decide_true, Bool.not_true]
      exact hK17 _ _ ⟨rfl, by simp [hid]⟩
    · simp only [hid, decide_false, Bool.not_false, nil_pt]
      refine hK17 _ _ ⟨rfl, ?_⟩
      congr 3
      simp [hid]
  rintro _ t ⟨rfl, rfl⟩
  simp only [List.headD_cons]
  by_cases hno : id ≠ [] ∧ G1.at_ id = none
  · rw [if_pos hno, show decide (id ≠ [] ∧ G1.at_ id = none) = true from decide_eq_true hno]
    simp only
    exact ⟨k3.is hle k2, by trivial⟩
  rw [if_neg hno, show decide (id ≠ [] ∧ G1.at_ id = none) = false from decide_eq_false hno]
  simp only
  rw [show (HV.lit (.string { data := #[] })) = strV [] from rfl]
  simp only [eql_s]
  -- the member
  refine Join.of (fun xs u => ∃ A' ps' tv, xs = [.ptr (ps'.getD (G1.joinI id) p0).1 0] ∧ Mid b2 u g (G1.join2 id) all2 A' ps' o2 (G1.joinI id) tv ∧ (decide (id = []) = false → tv = rowL strC 1 (ps'.getD (G1.joinI id) p0).2.tp) ∧ (ps'.getD (G1.joinI id) p0).2.id = G1.nm id) ?_ ?_
  rotate_left
  · intro K23 hK23
    by_cases hid : id = []
    · subst hid
      simp only [decide_true, hvNil, hvFld, k3.ld, gC, List.getElem?_cons_succ, List.getElem?_cons_zero]
      rw [add_n (a := G1.given) (b := 1) (by omega) (by omega)]
      refine store1 k3.at_ (by simp [gC]) (hc_int _ _) (ho_int _ _) rfl ?_
      have k4 := k3.putG { G1 with given := G1.given + 1 } all2 o2 rfl k3.sh
      rw [show (gC G1 all2 A2 o2).set 5 (.lit (.int .i64 (G1.given + 1))) = gC { G1 with given := G1.given + 1 } all2 A2 o2 from rfl]
      generalize t.set g (.cells (gC { G1 with given := G1.given + 1 } all2 A2 o2)) = t3 at *
      simp only [k4.ld, gC, List.getElem?_cons_succ, List.getElem?_cons_zero]
      obtain ⟨n, hn⟩ : ∃ n : Nat, G1.given + 1 = (n : Int) := ⟨(G1.given + 1).toNat, by omega⟩
      rw [hn]
      refine (itoa28 (n := n) (by omega)).mono ?_
      rintro v t4 ⟨rfl, rfl⟩
      rw [show (HV.lit (.string { data := #[109] })) = strV [109] from rfl, add_s (by have := decL_len 1 n (by omega); simp; omega)]
      simp only [List.cons_append, List.nil_append]
      have enm : G1.nm [] = 109 :: decL n := by unfold GG.nm; rw [if_pos rfl, hn]; rfl
      have e2 : G1.join2 [] = { G1 with given := (n : Int), l := G1.l ++ [⟨109 :: decL n, [], 0, false, false⟩] } := by unfold GG.join2; rw [if_pos rfl, enm, hn]
      have ei : G1.joinI [] = ps2.length := by unfold GG.joinI; rw [if_pos rfl, k3.len]
      rw [show vMk [(0, 1), (1, 1), (2, 1), (3, 1), (4, 1)] [.lit (.string .empty), .lit (.slice none 0 0), .lit (.int .i64 0), .lit (.bool false), .lit (.bool false)] [(0, strV (109 :: decL n))] = some (.agg [strV (109 :: decL n), nilV, .lit (.int .i64 0), .lit (.bool false), .lit (.bool false)]) from rfl]
      simp only
      refine hbox_intro (hc_agg _) fun q hq => ?_
      have k5 := k4.mono (le_set_new (.cells [strV (109 :: decL n), nilV, .lit (.int .i64 0), .lit (.bool false), .lit (.bool false)]) (le_refl' t4) hq)
      simp only [k5.ld, gC, List.getElem?_cons_succ, List.getElem?_cons_zero]
      refine k5.acc.app1 k5.le (by omega) (hc_ptr _ _) rfl rfl ⟨by have := hb1.pslen k3; omega, by have := hb1.pslen k3; omega⟩ fun A3 t6 g1 g2 g3 => ?_
      have kg := (g3 g _ k5.accg k5.at_).1
      refine store1 kg (by simp [gC]) g1.hc g1.one rfl ?_
      rw [show (gC { G1 with given := G1.given + 1 } all2 A2 o2).set 9 A3 = gC { G1 with given := (n : Int), l := G1.l ++ [⟨109 :: decL n, [], 0, false, false⟩] } all2 A3 o2 from by rw [hn]; rfl]
      rw [ei, e2, enm] at hK23
      have hadd := fun m => addM k4 hq _ g1 g2 g3 m { G1 with given := (n : Int), l := G1.l ++ [m] } rfl rfl
      have eg : (ps2 ++ [(q, (⟨109 :: decL n, [], 0, false, false⟩ : GM))]).getD ps2.length p0 = (q, ⟨109 :: decL n, [], 0, false, false⟩) := by simp [List.getD]
      refine hK23 _ _ ⟨A3, ps2 ++ [(q, ⟨109 :: decL n, [], 0, false, false⟩)], nilV, by rw [eg], ⟨by simp, ?_, fun m => ?_, ?_⟩, by simp, by rw [eg]⟩
      · rw [eg]
        have hqg : q ≠ g := fun e => by rw [e, k4.at_] at hq; cases hq
        rw [set_ne _ _ hqg]
        have hAq : accId A2 ≠ some q := fun e => by obtain ⟨-, r, h2⟩ := k4.acc.free e; rw [hq] at h2; cases h2
        exact (g3 q _ hAq (set_at _ _ _)).1
      · rw [eg]
        have e1 : (ps2 ++ [(q, (⟨109 :: decL n, [], 0, false, false⟩ : GM))]).set ps2.length (q, m) = ps2 ++ [(q, m)] := by simp
        have e3 : (G1.l ++ [(⟨109 :: decL n, [], 0, false, false⟩ : GM)]).set ps2.length m = G1.l ++ [m] := by rw [← k3.len]; simp
        rw [e1]
        simp only
        rw [e3]
        exact hadd m
      · show G1.l ++ [_] = _
        rw [k3.l, List.map_append]
        rfl
    · simp only [hid, decide_false]
      obtain ⟨i, hi⟩ : ∃ i, G1.at_ id = some i := by
        cases hi : G1.at_ id with
        | none => exact absurd ⟨hid, hi⟩ hno
        | some i => exact ⟨i, rfl⟩
      have ei : G1.joinI id = i := by unfold GG.joinI; rw [if_neg hid, hi]; rfl
      have e2 : G1.join2 id = G1 := by unfold GG.join2; rw [if_neg hid]
      have enm : G1.nm id = id := by unfold GG.nm; rw [if_neg hid]
      rw [ei, e2, enm] at hK23
      have hlt := at_lt k3 hi
      rw [hi]
      refine hK23 _ _ ⟨A2, ps2, _, rfl, k3.mid hlt, fun _ => rfl, ?_⟩
      have := (List.findIdx?_eq_some_iff_getElem.1 (show G1.l.findIdx? _ = some i from hi)).2.1
      simp only [k3.l, List.getElem_map, decide_eq_true_eq] at this
      rw [getD_get _ _ hlt]
      exact this
  rintro _ u ⟨A3, ps3, tv, rfl, hmid, htv, hnm⟩
  have hall2 : (G1.join2 id).all = G1.all := join2_all _ _
  have hb2 : Bd (K + 2) (G1.join2 id) := by
    unfold GG.join2
    split
    · refine ⟨hb1.now, hb1.since, fun m hm => ?_, ?_, ?_, hb1.all, hb1.sh, by omega⟩
      · rcases List.mem_append.1 (show m ∈ G1.l ++ [_] from hm) with hm | hm
        · exact hb1.mem m hm
        · rw [List.mem_singleton.1 hm]; exact ⟨Int.le_refl 0, by show (0 : Int) ≤ _; omega, by simp⟩
      · have := hb1.gen; exact ⟨this.1, by show G1.gen ≤ _; omega⟩
      · show (G1.l ++ [_]).length ≤ _
        have := hb1.len
        simp; omega
    · exact hb1.mono (by omega) (by omega)
  rw [← hall2] at k2
  generalize G1.join2 id = G2 at *
  generalize G1.joinI id = i at *
  generalize G1.nm id = nm at *
  obtain ⟨fr, hfr⟩ : ∃ fr, decide (id = []) = fr := ⟨_, rfl⟩
  rw [hfr] at htv ⊢
  clear hno hfull hfr k3 hA2 hg hb1
  have hne := hmid.ne
  have hget := hmid.get
  have lg : ∀ k, vLoad u (.ptr g k) 1 false = (gC G2 all2 A3 o2)[k]? := fun k => load_cell k 1 hmid.at_
  simp only [List.headD_cons, hvNil, hvFld, lg, gC, List.getElem?_cons_succ, List.getElem?_cons_zero]
  refine store1 hmid.cell (by simp [gmC]) (hc_int _ _) (ho_int _ _) rfl ?_
  have lg1 : ∀ k, vLoad (u.set (ps3.getD i p0).1 (.cells (((gmC (ps3.getD i p0).2).set 1 tv).set 2 (.lit (.int .i64 G2.now))))) (.ptr g k) 1 false = (gC G2 all2 A3 o2)[k]? := fun k => load_cell k 1 (by rw [set_ne _ _ (Ne.symm hne)]; exact hmid.at_)
  have lm1 : ∀ k, vLoad (u.set (ps3.getD i p0).1 (.cells (((gmC (ps3.getD i p0).2).set 1 tv).set 2 (.lit (.int .i64 G2.now))))) (.ptr (ps3.getD i p0).1 k) 1 false = (((gmC (ps3.getD i p0).2).set 1 tv).set 2 (.lit (.int .i64 G2.now)))[k]? := fun k => load_cell k 1 (set_at _ _ _)
  have at1 := set_at u (ps3.getD i p0).1 (.cells (((gmC (ps3.getD i p0).2).set 1 tv).set 2 (.lit (.int .i64 G2.now))))
  have e3 : { G2 with l := G2.l.set i { (ps3.getD i p0).2 with heard := G2.now } } = G2.updAt i fun m => { m with heard := G2.now } := by unfold GG.updAt; rw [hget]
  have e4 : ∀ tp : List By, { G2 with l := G2.l.set i { (ps3.getD i p0).2 with heard := G2.now, tp := tp } } = (G2.updAt i fun m => { m with heard := G2.now }).updAt i fun m => { m with tp := tp } := fun tp => by
    rw [updAt_two _ _ _ _ (by rw [hmid.l]; simpa using hmid.hi)]
    unfold GG.updAt
    rw [hget]
  have hset := hmid.set_
  have hlt3 := hmid.hi
  have tp3 : ((G2.updAt i fun m => { m with heard := G2.now }).l.getD i gm0).tp = (ps3.getD i p0).2.tp := by
    rw [← e3]
    show ((G2.l.set i _).getD i gm0).tp = _
    rw [getD_get _ _ (by rw [List.length_set, hmid.l]; simpa using hlt3), List.getElem_set_self]
  have hj3 : G2.join3 i fr (ot.getD []) = if (fr || decide (G2.state = 2) || !decide ((ps3.getD i p0).2.tp = ot.getD [])) = true then
      (((if ((G2.updAt i fun m => { m with heard := G2.now }).updAt i fun m => { m with tp := ot.getD [] }).state = 2 then ((G2.updAt i fun m => { m with heard := G2.now }).updAt i fun m => { m with tp := ot.getD [] }) else ((G2.updAt i fun m => { m with heard := G2.now }).updAt i fun m => { m with tp := ot.getD [] }).prepares).updAt i fun m => { m with joined := true }).forms) else G2.updAt i fun m => { m with heard := G2.now } := by
    unfold GG.join3
    simp only
    rw [tp3]
    have est : (G2.updAt i fun m => { m with heard := G2.now }).state = G2.state := rfl
    rw [est]
    simp only [Bool.or_eq_true, Bool.not_eq_true', decide_eq_true_eq, decide_eq_false_iff_not, or_assoc, ne_eq]
  generalize hu1 : u.set (ps3.getD i p0).1 (.cells (((gmC (ps3.getD i p0).2).set 1 tv).set 2 (.lit (.int .i64 G2.now)))) = u1 at *
  refine Join.of (fun xs t => ∃ A' ps' o', GSt b2 t g (G2.join3 i fr (ot.getD [])) all2 A' ps' o' ∧ ∃ p ∈ ps', p.1 = (ps3.getD i p0).1 ∧ p.2.id = nm) ?_ ?_
  · rintro _ t ⟨A5, ps5, o5, h5, p, hp, hp1, hp2⟩
    have lp := h5.ldm hp 0
    rw [hp1] at lp
    have hall3 : (G2.join3 i fr (ot.getD [])).all = G2.all := join3_all _ _ _ _
    rw [← hall3] at k2
    generalize G2.join3 i fr (ot.getD []) = G6 at *
    simp only [h5.ld, gC, List.getElem?_cons_succ, List.getElem?_cons_zero, eql_n]
    by_cases hs : G6.state = 2
    · simp only [hs, decide_true, lp, gmC, List.getElem?_cons_zero, if_true]
      exact ⟨h5.is hle k2, by rw [hp2]⟩
    · simp only [hs, decide_false, lp, gmC, List.getElem?_cons_zero, if_false, h5.ld, gC, List.getElem?_cons_succ]
      exact ⟨trivial, h5.is hle k2, by rw [hp2]⟩
  intro K58 hK58
  refine Join.of (fun xs t => t = u1 ∧ xs = [.lit (.bool (fr || decide (G2.state = 2) || !decide ((ps3.getD i p0).2.tp = ot.getD [])))]) ?_ ?_
  rotate_left
  · intro K61 hK61
    cases hfr : fr with
    | true =>
      simp only
      exact hK61 _ _ ⟨rfl, by rw [hfr]; rfl⟩
    | false =>
      simp only [lg1, gC, List.getElem?_cons_succ, List.getElem?_cons_zero, eql_n]
      by_cases hs : G2.state = 2
      · simp only [hs, decide_true]
        exact hK61 _ _ ⟨rfl, by rw [hfr, hs]; rfl⟩
      · have l1 : vLoad u1 (.ptr (ps3.getD i p0).1 1) 1 false = some (rowV strC 1 (some (ps3.getD i p0).2.tp)) := by rw [lm1, htv hfr]; rfl
        simp only [hs, decide_false, l1]
        have htp3 : ((some (ps3.getD i p0).2.tp).getD []).length ≤ 1000000000 := by
          have := (hb2.mem (ps3.getD i p0).2 (by rw [hmid.l]; exact List.mem_map.2 ⟨_, getD_memD p0 hlt3, rfl⟩)).2.2
          simp only [Option.getD_some]
          omega
        refine (equal29 _ ot u1 htp3).mono ?_
        rintro v t ⟨rfl, rfl⟩
        simp only [vUn, Option.getD_some]
        exact hK61 _ _ ⟨rfl, by rw [hfr, decide_eq_false hs]; rfl⟩
  rintro _ t ⟨rfl, rfl⟩
  simp only [List.headD_cons]
  cases hc : fr || decide (G2.state = 2) || !decide ((ps3.getD i p0).2.tp = ot.getD []) with
  | false =>
    simp only
    rw [hc] at hj3
    simp only [Bool.false_eq_true, if_false] at hj3
    have hfr : fr = false := by simp only [Bool.or_eq_false_iff] at hc; exact hc.1.1
    have h3 := hset { (ps3.getD i p0).2 with heard := G2.now }
    rw [e3, ← hj3] at h3
    have ecell : ((gmC (ps3.getD i p0).2).set 1 tv).set 2 (.lit (.int .i64 G2.now)) = gmC { (ps3.getD i p0).2 with heard := G2.now } := by rw [htv hfr]; rfl
    rw [ecell] at hu1
    rw [hu1] at h3
    exact hK58 _ _ ⟨_, _, _, h3, ((ps3.getD i p0).1, { (ps3.getD i p0).2 with heard := G2.now }), List.mem_iff_getElem.2 ⟨i, by rw [List.length_set]; exact hlt3, by rw [List.getElem_set_self]⟩, rfl, hnm⟩
  | true =>
    simp only
    rw [hc] at hj3
    simp only [if_true] at hj3
    refine (clone30 ot t (by omega)).mono ?_
    rintro v t' ⟨rfl, rfl⟩
    refine store1 at1 (by simp [gmC]) (hc_rowV strC 1 (some (ot.getD []))) (ho_rowV strC 1 (some (ot.getD []))) rfl ?_
    rw [← hu1, set_set]
    rw [show (((gmC (ps3.getD i p0).2).set 1 tv).set 2 (.lit (.int .i64 G2.now))).set 1 (rowL strC 1 (ot.getD [])) = gmC { (ps3.getD i p0).2 with heard := G2.now, tp := ot.getD [] } from rfl]
    have h4 := hset { (ps3.getD i p0).2 with heard := G2.now, tp := ot.getD [] }
    rw [e4] at h4
    have hb4 : Bd (K + 2) ((G2.updAt i fun m => { m with heard := G2.now }).updAt i fun m => { m with tp := ot.getD [] }) :=
      (hb2.updAt (fun m => { m with heard := G2.now }) (fun m hm => ⟨hb2.now.1, hb2.now.2, hm.2.2⟩)).updAt (fun m => { m with tp := ot.getD [] }) (fun m hm => ⟨hm.1, hm.2.1, hot⟩)
    have ha4 : ((G2.updAt i fun m => { m with heard := G2.now }).updAt i fun m => { m with tp := ot.getD [] }).all = G2.all := rfl
    have hlt4 : i < (ps3.set i ((ps3.getD i p0).1, { (ps3.getD i p0).2 with heard := G2.now, tp := ot.getD [] })).length := by rw [List.length_set]; exact hlt3
    have hat4 : (ps3.set i ((ps3.getD i p0).1, { (ps3.getD i p0).2 with heard := G2.now, tp := ot.getD [] })).getD i p0 = ((ps3.getD i p0).1, { (ps3.getD i p0).2 with heard := G2.now, tp := ot.getD [] }) := by
      rw [getD_get _ _ hlt4, List.getElem_set_self]
    generalize ((G2.updAt i fun m => { m with heard := G2.now }).updAt i fun m => { m with tp := ot.getD [] }) = G4 at *
    generalize u.set (ps3.getD i p0).1 (.cells (gmC { (ps3.getD i p0).2 with heard := G2.now, tp := ot.getD [] })) = u2 at h4 ⊢
    have hq4 : ((ps3.set i ((ps3.getD i p0).1, { (ps3.getD i p0).2 with heard := G2.now, tp := ot.getD [] })).getD i p0).1 = (ps3.getD i p0).1 := by rw [hat4]
    have hid4 : ((ps3.set i ((ps3.getD i p0).1, { (ps3.getD i p0).2 with heard := G2.now, tp := ot.getD [] })).getD i p0).2.id = nm := by rw [hat4]; exact hnm
    generalize (ps3.set i ((ps3.getD i p0).1, { (ps3.getD i p0).2 with heard := G2.now, tp := ot.getD [] })) = ps4 at *
    refine Join.of (fun _ w => ∃ ps5, GSt b2 w g (if G4.state = 2 then G4 else G4.prepares) all2 A3 ps5 o2 ∧ ps5.map Prod.fst = ps4.map Prod.fst) ?_ ?_
    rotate_left
    · intro K79 hK79
      simp only [h4.ld, gC, List.getElem?_cons_succ, List.getElem?_cons_zero, neq_i3]
      by_cases hs : G4.state = 2
      · simp only [hs, decide_true, Bool.not_true]
        exact hK79 _ _ ⟨ps4, by rw [if_pos hs]; exact h4, rfl⟩
      · simp only [hs, decide_false, Bool.not_false]
        refine (prepares31 h4 (hb4.pslen h4)).mono ?_
        rintro v w ⟨ps5, h5, h6⟩
        exact hK79 _ _ ⟨ps5, by rw [if_neg hs]; exact h5, h6⟩
    rintro _ w ⟨ps5, h5, h6⟩
    have hids : (if G4.state = 2 then G4 else G4.prepares).l.map GM.id = G4.l.map GM.id := by
      split
      · rfl
      · exact prepares_ids G4
    have ha5 : (if G4.state = 2 then G4 else G4.prepares).all = G4.all := by
      split
      · rfl
      · exact prepares_all G4
    have hb5 : Bd (K + 2) (if G4.state = 2 then G4 else G4.prepares) := by
      split
      · exact hb4
      · exact hb4.prepares
    generalize (if G4.state = 2 then G4 else G4.prepares) = G5 at *
    have hlt5 : i < ps5.length := by
      have := congrArg List.length h6
      rw [List.length_map, List.length_map] at this
      omega
    have hq5 : (ps5.getD i p0).1 = (ps3.getD i p0).1 := (fst_at h6 i).trans hq4
    have hid5 : (ps5.getD i p0).2.id = nm := by rw [← h5.idAt hlt5, hids, h4.idAt hlt4, hid4]
    have hm5 := getD_memD p0 hlt5
    rw [← hq5]
    refine store1 (h5.mem _ hm5).2.1 (by simp [gmC]) (hc_bool _) (ho_bool _) rfl ?_
    rw [show (gmC (ps5.getD i p0).2).set 3 (.lit (.bool true)) = gmC { (ps5.getD i p0).2 with joined := true } from rfl]
    have h7 := h5.updAt hlt5 (fun m => { m with joined := true })
    have hb7 := hb5.updAt (i := i) (fun m => { m with joined := true }) (fun m hm => hm)
    have hall7 : RowV b2 2 all2 (G5.updAt i fun m => { m with joined := true }).all.length (rows topC (G5.updAt i fun m => { m with joined := true }).all) := by
      show RowV b2 2 all2 G5.all.length (rows topC G5.all)
      rw [ha5, ha4]
      exact k2
    refine (forms32 h7 hall7 hb7).mono ?_
    rintro v x ⟨A', ps', o', h8, h9⟩
    obtain ⟨p, p1, p2, p3⟩ := h9 ((ps5.getD i p0).1, { (ps5.getD i p0).2 with joined := true }) (List.mem_iff_getElem.2 ⟨i, by rw [List.length_set]; exact hlt5, by rw [List.getElem_set_self]⟩) rfl
    rw [← hj3] at h8
    exact hK58 _ _ ⟨A', ps', o', h8, p, p1, p2.trans hq5, p3.trans hid5⟩
end
end Go.Proofs.YtkcgokkgefgcjaaDoor.AS
end
section
namespace Go.Proofs.YtkcgokkgefgcjaaDoor.AS
open Go.Proofs.YtkcgokkgefgcjaaDoor.H Go.Proofs.YtkcgokkgefgcjaaDoor.G0
set_option linter.unusedVariables false
set_option linter.unusedSimpArgs false
set_option maxRecDepth 100000
section
variable {b s : HS} {g : Nat} {G : GG} {all A : HV} {ps : List (Nat × GM)} {o : Option DD} {K : Nat}
theorem lit_up {id sz n : Nat} {cs : List HV} (hid : s id = none) (hl : cs.length = n * sz) (h0 : n ≠ 0) (ys zs : List HV) (hy : ∀ q cs, ys.map (frz2 q cs) = ys) (hz : ∀ q cs, zs.map (frz2 q cs) = zs) :
    UpL (ys ++ .view id 0 sz n true :: zs) (s.set id (.cells cs)) (ys ++ .list sz n cs false :: zs) s := by
  have hle := le_set_new (.cells cs) (le_refl' s) hid
  have ha : Acc0 s (s.set id (.cells cs)) sz (.view id 0 sz n true) n cs := .inl (.inr ⟨id, true, hid, rfl, set_at _ _ _, hl, h0⟩)
  exact acc0_upAtL ha hle ys zs hy hz
def allL (k : Int) : List Top := [⟨[98], ((k % 5).toNat : Nat)⟩, ⟨[97], 2⟩]
theorem allL_len (k : Int) : (allL k).length ≤ 1000 := by show 2 ≤ 1000; decide
theorem all20 (k : Int) (s : HS) : HC Tryd.prog 20 [.lit (.int .i64 k)] s (fun v t => t = s ∧ ∃ a c, v = .tup [a, c] ∧ ARow a (allL k) ∧ a = rowL topC 2 (allL k) ∧ c = rowL topC 2 (allL k)) := by
  refine HC.up (HC20 ?_)
  unfold c20
  refine (round9 (n := 5) (by omega) (by omega) s).mono ?_
  rintro v t ⟨rfl, rfl⟩
  rw [show vMk [(0, 1), (1, 1)] [.lit (.string .empty), .lit (.int .i64 0)] [(0, (.lit (.string { data := #[98] }))), (1, .lit (.int .i64 (((k % ((5 : Nat) : Int)).toNat : Nat) : Int)))] = some (.agg (topC ⟨[98], ((k % 5).toNat : Nat)⟩)) from rfl, show vMk [(0, 1), (1, 1)] [.lit (.string .empty), .lit (.int .i64 0)] [(0, (.lit (.string { data := #[97] }))), (1, (.lit (.int .i64 2)))] = some (.agg (topC ⟨[97], 2⟩)) from rfl]
  simp only [bindO]
  refine hBS_in (cs := rows topC (allL k)) rfl fun i1 h1 => ?_
  refine hBS_in (cs := rows topC (allL k)) rfl fun i2 h2 => ?_
  have hne : i1 ≠ i2 := fun e => by rw [e, set_at] at h2; cases h2
  generalize hcs : rows topC (allL k) = cs at *
  have hlen : cs.length = 4 := by rw [← hcs]; rfl
  have u1 := UpL.frzD (xs := [.tup [.view i1 0 2 2 true, .view i2 0 2 2 true]]) (set_at (t.set i1 (.cells cs)) i2 (.cells cs)) (le_set_new _ (le_refl' _) h2) h2
  have e1 : [HV.tup [.view i1 0 2 2 true, .view i2 0 2 2 true]].map (frz2 i2 cs) = [.tup [.view i1 0 2 2 true, .list 2 2 cs false]] := by
    simp [frz2, frz1, frz0, phi, hne, hlen]
    exact List.take_of_length_le (by omega)
  rw [e1] at u1
  have u2 := UpL.frzD (xs := [.tup [.view i1 0 2 2 true, .list 2 2 cs false]]) (set_at t i1 (.cells cs)) (le_set_new _ (le_refl' _) h1) h1
  have e2 : [HV.tup [.view i1 0 2 2 true, .list 2 2 cs false]].map (frz2 i1 cs) = [.tup [.list 2 2 cs false, .list 2 2 cs false]] := by
    simp [frz2, frz1, frz0, phi, hlen]
    exact List.take_of_length_le (by omega)
  rw [e2] at u2
  refine ⟨_, t, u1.trans u2, rfl, _, _, rfl, ⟨?_, List.cons_ne_nil _ _⟩, ?_, ?_⟩
  all_goals (unfold rowL; rw [hcs]; rfl)
end
end Go.Proofs.YtkcgokkgefgcjaaDoor.AS
end
section
namespace Go.Proofs.YtkcgokkgefgcjaaDoor.AS
open Go.Proofs.YtkcgokkgefgcjaaDoor.H Go.Proofs.YtkcgokkgefgcjaaDoor.G0
set_option linter.unusedVariables false
set_option linter.unusedSimpArgs false
set_option maxRecDepth 100000
structure Step where
  kind : Int
  member : By
  topics : Option (List By)
  gen : Int
  wait : Int
section
variable {b s : HS} {g : Nat} {G : GG} {K : Nat}
/-- What the law looks at. -/
structure SmallL (l : List Step) : Prop where
  nl : l.length ≤ 80
  tp : ∀ x ∈ l, (x.topics.getD []).length ≤ 1000
structure StIn (l : List Step) : Prop where
  nl : l.length ≤ 9223372036854775807
  mem : ∀ x ∈ l, x.member.length ≤ 9223372036854775807
  tp : ∀ x ∈ l, (x.topics.getD []).length ≤ 9223372036854775807 ∧ ∀ y ∈ x.topics.getD [], y.length ≤ 9223372036854775807
theorem Bd.tick {al : List Top} {now : Int} (h : Bd K G) (hk : K + 1 ≤ 1000000) (hal : al.length ≤ 1000) (hn : now ≤ 1125899906842624) : Bd (K + 1) (G.tick al now) := (h.setAll hal).goes hk hn
theorem Bd.join2 {id : By} (h : Bd K G) (hk : K + 1 ≤ 1000000) : Bd (K + 1) (G.join2 id) := by
  unfold GG.join2
  split
  · refine ⟨h.now, h.since, fun m hm => ?_, ?_, ?_, h.all, h.sh, by omega⟩
    · rcases List.mem_append.1 (show m ∈ G.l ++ [_] from hm) with hm | hm
      · exact h.mem m hm
      · rw [List.mem_singleton.1 hm]; exact ⟨Int.le_refl 0, by show (0 : Int) ≤ _; omega, by simp⟩
    · have := h.gen; exact ⟨this.1, by show G.gen ≤ _; omega⟩
    · show (G.l ++ [_]).length ≤ _
      have := h.len
      simp; omega
  · exact h.mono (by omega) (by omega)
theorem Bd.join3 {i : Nat} {f : Bool} {tp : List By} (h : Bd K G) (hk : K + 1 ≤ 1000000) (ht : tp.length ≤ 1000000) : Bd (K + 1) (G.join3 i f tp) := by
  have h3 := h.updAt (i := i) (fun m => { m with heard := G.now }) (fun m hm => ⟨h.now.1, h.now.2, hm.2.2⟩)
  have h4 := h3.updAt (i := i) (fun m => { m with tp := tp }) (fun m hm => ⟨hm.1, hm.2.1, ht⟩)
  unfold GG.join3
  simp only
  split
  · refine Bd.forms ?_ hk
    refine Bd.updAt ?_ _ (fun m hm => hm)
    split
    · exact h4
    · exact h4.prepares
  · exact h3.mono (by omega) (by omega)
theorem Bd.join1 {id : By} {tp : List By} (h : Bd K G) (hk : K + 2 ≤ 1000000) (ht : tp.length ≤ 1000000) : Bd (K + 2) (G.join1 id tp).1 := by
  unfold GG.join1
  repeat' split
  · exact h.mono (by omega) (by omega)
  · exact h.mono (by omega) (by omega)
  · exact h.mono (by omega) (by omega)
  · exact (h.join2 (by omega)).join3 (by omega) ht
theorem Bd.join {id : By} {tp : List By} {al : List Top} {now : Int} (h : Bd K G) (hk : K + 3 ≤ 1000000) (ht : tp.length ≤ 1000000) (hal : al.length ≤ 1000) (hn : now ≤ 1125899906842624) : Bd (K + 3) (G.join id tp al now).1 :=
  (h.tick (by omega) hal hn).join1 (K := K + 1) (by omega) ht
theorem Bd.sync {id : By} {gen now : Int} (h : Bd K G) (hk : K + 1 ≤ 1000000) (hn : now ≤ 1125899906842624) : Bd (K + 1) (G.sync id gen now).1 := by
  have h1 := h.heard (id := id) (gen := gen) hk hn
  unfold GG.sync
  split
  · have h2 := h1.upd id (fun m => { m with synced := true }) (fun m hm => h1.mem m hm)
    simp only
    split
    · exact h2.enter 4
    · exact h2
  · exact h1
theorem Bd.new {session rebalance gen : Int} {round : Bool} (hg : 0 ≤ gen ∧ gen ≤ 1099511627776) : Bd 0 (GG.new session rebalance gen round) :=
  ⟨⟨Int.le_refl 0, by show (0 : Int) ≤ _; omega⟩, ⟨Int.le_refl 0, by show (0 : Int) ≤ _; omega⟩, (by rintro m ⟨⟩), ⟨hg.1, by show gen ≤ _; omega⟩, Nat.zero_le _, by show 0 ≤ 1000; omega, ⟨by show 0 ≤ 1000000; omega, (by rintro d ⟨⟩)⟩, by omega⟩
end
end Go.Proofs.YtkcgokkgefgcjaaDoor.AS
end
section
namespace Go.Proofs.YtkcgokkgefgcjaaDoor.AS
open Go.Proofs.YtkcgokkgefgcjaaDoor.H Go.Proofs.YtkcgokkgefgcjaaDoor.G0
set_option linter.unusedVariables false
set_option linter.unusedSimpArgs false
set_option maxRecDepth 100000
theorem ofD_at {D : DD} {i : Nat} (hi : i < D.length) (hn : (D.map Prod.fst).Nodup) : ofD D (D.getD i d0).1 = (D.getD i d0).2 := by
  have : D.find? (fun d => d.1 == (D.getD i d0).1) = some (D.getD i d0) := by
    refine find_none_take d0 hi (fun x hx => ?_) (by simp)
    obtain ⟨j, hj, rfl⟩ := List.mem_iff_getElem.1 hx
    rw [List.length_take] at hj
    rw [List.getElem_take]
    rw [getD_get d0 D hi]
    rw [beq_eq_false_iff_ne]
    intro e
    have hnd := hn
    unfold List.Nodup at hnd
    rw [List.pairwise_map, List.pairwise_iff_getElem] at hnd
    exact hnd j i (by omega) hi (by omega) e
  unfold ofD
  rw [this]
theorem len_part : ∀ (n : Nat) (l : List (Nat × Slot)), (∀ p ∈ l, p.1 < n) → ((List.range n).map fun i => (shOf l i).length).sum = l.length
  | n, [], h => by
    have : ((List.range n).map fun i => (shOf [] i).length) = (List.range n).map fun _ => 0 := by simp [shOf]
    rw [this]
    induction n with
    | zero => rfl
    | succ n ih => rw [List.range_succ, List.map_append, List.sum_append, ih (by simp) (by simp [shOf])]; rfl
  | n, p :: l, h => by
    have ih := len_part n l (fun q hq => h q (List.mem_cons_of_mem _ hq))
    have hp := h p List.mem_cons_self
    have e : ∀ i, (shOf (p :: l) i).length = (shOf l i).length + if p.1 = i then 1 else 0 := fun i => by
      unfold shOf
      rw [List.filter_cons]
      by_cases hpi : p.1 = i <;> simp [hpi]
    have s1 : ∀ (k : Nat), ((List.range k).map fun i => (shOf (p :: l) i).length).sum = ((List.range k).map fun i => (shOf l i).length).sum + if p.1 < k then 1 else 0 := by
      intro k
      induction k with
      | zero => simp
      | succ k ihk =>
        rw [List.range_succ, List.map_append, List.map_append, List.sum_append, List.sum_append, ihk]
        simp only [List.map_cons, List.map_nil, List.sum_cons, List.sum_nil, e k]
        by_cases h1 : p.1 < k
        · rw [if_pos h1, if_neg (by omega), if_pos (by omega)]; omega
        · by_cases h2 : p.1 = k
          · rw [if_neg h1, if_pos h2, if_pos (by omega)]; omega
          · rw [if_neg h1, if_neg h2, if_neg (by omega)]; omega
    rw [s1, ih, if_pos hp]
    rfl
theorem isM_ids {l : List Mem} (h : (l.map Mem.id).Nodup) : ((isM l).map Mem.id).Nodup := ((isort_perm Mem.id l).map Mem.id).nodup_iff.2 h
theorem shD_ids (rg : List Mem → List Top → List (Nat × Slot)) (l : List Mem) (tl : List Top) : (shD rg l tl).map Prod.fst = (isM l).map Mem.id := by
  refine List.ext_getElem (by rw [List.length_map, List.length_map, shD_len, isort_len]) fun i h1 h2 => ?_
  rw [List.length_map] at h1 h2
  rw [List.getElem_map, List.getElem_map]
  have := shD_get (rg := rg) (l := l) (tl := tl) (i := i) (by rw [shD_len] at h1; exact h1)
  rw [getD_get _ _ h1, getD_get _ _ h2] at this
  rw [this]
theorem ofD_shD {rg : List Mem → List Top → List (Nat × Slot)} {l : List Mem} {tl : List Top} (hn : (l.map Mem.id).Nodup) {i : Nat} (hi : i < l.length) : ofD (shD rg l tl) ((isM l).getD i m0).id = shOf (rg (isM l) (isT tl)) i := by
  have h1 := shD_get (rg := rg) (l := l) (tl := tl) hi
  have h2 := ofD_at (D := shD rg l tl) (i := i) (by rw [shD_len]; exact hi) (by rw [shD_ids]; exact isM_ids hn)
  rw [h1] at h2
  exact h2
def partsOf (w : By → Bool) (tl : List Top) : Nat := (tl.map fun t => if w t.name then t.parts.toNat else 0).sum
theorem slots_lenW (w : By → Bool) : ∀ tl : List Top, ((slotsOf tl).filter fun x => w x.1).length = partsOf w tl
  | [] => rfl
  | t :: tl => by
    unfold partsOf slotsOf
    rw [List.flatMap_cons, List.filter_append, List.length_append, List.map_cons, List.sum_cons]
    have := slots_lenW w tl
    unfold partsOf slotsOf at this
    rw [this]
    congr 1
    cases hw : w t.name with
    | true => rw [List.filter_eq_self.2 (fun x hx => by obtain ⟨j, -, rfl⟩ := List.mem_map.1 hx; exact hw)]; simp
    | false => rw [List.filter_eq_nil_iff.2 (fun x hx => by obtain ⟨j, -, rfl⟩ := List.mem_map.1 hx; rw [hw]; simp)]; simp
theorem sum_perm {a c : List Nat} (h : a.Perm c) : a.sum = c.sum := h.sum_nat
theorem ofD_sum {rg : List Mem → List Top → List (Nat × Slot)} {l : List Mem} {tl : List Top} (hn : (l.map Mem.id).Nodup) (hg : Good (isM l) (isT tl) (rg (isM l) (isT tl))) :
    (l.map fun m => (ofD (shD rg l tl) m.id).length).sum = partsOf (wantL l) tl := by
  have p1 := isort_perm Mem.id l
  rw [← sum_perm (p1.map fun m => (ofD (shD rg l tl) m.id).length)]
  have e1 : ((isM l).map fun m => (ofD (shD rg l tl) m.id).length) = (List.range l.length).map fun i => (shOf (rg (isM l) (isT tl)) i).length := by
    refine List.ext_getElem (by simp [isort_len]) fun i h1 h2 => ?_
    rw [List.length_map] at h1
    have hi : i < l.length := by rw [isort_len] at h1; exact h1
    rw [List.getElem_map, List.getElem_map, List.getElem_range, ← ofD_shD hn hi, getD_get m0 _ h1]
  show ((isM l).map fun m => (ofD (shD rg l tl) m.id).length).sum = _
  rw [e1, len_part _ _ (fun p hp => by have := (hg.who p hp).1; rw [isort_len] at this; exact this)]
  have e2 := congrArg List.length hg.slots
  rw [List.length_map] at e2
  rw [e2, slots_lenW]
  have e3 : ∀ nm, wanted (isM l) nm = wantL l nm := fun nm => by rw [wanted_eq, wantL_perm p1]
  unfold partsOf
  rw [sum_perm ((isort_perm Top.name tl).map _)]
  congr 2
  funext t
  rw [e3]
theorem resD_sum {rd : Bool} {l : List (By × List By)} {al : List Top} (hok : okA (l.map fun p => (⟨p.1, some p.2⟩ : Mem)) al) :
    (l.map fun p => (ofD (sharesOf rd l al) p.1).length).sum = partsOf (fun nm => l.any fun p => decide (nm ∈ p.2)) al := by
  obtain ⟨rg, hrg, hg⟩ : ∃ rg : List Mem → List Top → List (Nat × Slot), sharesOf rd l al = shD rg (l.map fun p => (⟨p.1, some p.2⟩ : Mem)) al ∧ Good (isM (l.map fun p => (⟨p.1, some p.2⟩ : Mem))) (isT al) (rg (isM (l.map fun p => (⟨p.1, some p.2⟩ : Mem))) (isT al)) := by
    unfold sharesOf resD
    cases rd with
    | true => exact ⟨roundA, by rw [if_pos hok]; simp, good_round _ _⟩
    | false => exact ⟨rangeA, by rw [if_pos hok]; simp, good_range _ _⟩
  have := ofD_sum hok.2.1 hg
  rw [← hrg, List.map_map] at this
  have e : wantL (l.map fun p => (⟨p.1, some p.2⟩ : Mem)) = fun nm => l.any fun p => decide (nm ∈ p.2) := by
    funext nm
    unfold wantL
    rw [List.any_map]
    rfl
  rw [e] at this
  exact this
/-- No slot is two members'. -/
theorem resD_apart {rd : Bool} {l : List (By × List By)} {al : List Top} {a c : By} {x : Slot} (ha : x ∈ ofD (sharesOf rd l al) a) (hc : x ∈ ofD (sharesOf rd l al) c) : a = c := by
  unfold sharesOf at ha hc
  by_cases hok : okA (l.map fun p => (⟨p.1, some p.2⟩ : Mem)) al
  case neg =>
    unfold resD at ha
    rw [if_neg hok] at ha
    cases ha
  obtain ⟨rg, hrg, hg⟩ : ∃ rg : List Mem → List Top → List (Nat × Slot), resD (if rd then roundA else rangeA) (l.map fun p => (⟨p.1, some p.2⟩ : Mem)) al = shD rg (l.map fun p => (⟨p.1, some p.2⟩ : Mem)) al ∧ Good (isM (l.map fun p => (⟨p.1, some p.2⟩ : Mem))) (isT al) (rg (isM (l.map fun p => (⟨p.1, some p.2⟩ : Mem))) (isT al)) := by
    unfold resD
    cases rd with
    | true => exact ⟨roundA, by rw [if_pos hok]; simp, good_round _ _⟩
    | false => exact ⟨rangeA, by rw [if_pos hok]; simp, good_range _ _⟩
  rw [hrg] at ha hc
  generalize (l.map fun p => (⟨p.1, some p.2⟩ : Mem)) = ml at *
  have hnd : (slotsOf (isT al)).Nodup := slots_nodup _ (((isort_perm Top.name al).map Top.name).nodup_iff.2 hok.2.2)
  have hsn : ((rg (isM ml) (isT al)).map Prod.snd).Nodup := by rw [hg.slots]; exact hnd.sublist List.filter_sublist
  have key : ∀ k, x ∈ ofD (shD rg ml al) k → ∃ i, i < ml.length ∧ k = ((isM ml).getD i m0).id ∧ x ∈ shOf (rg (isM ml) (isT al)) i := fun k hk => by
    by_cases hf : ∃ i, i < ml.length ∧ k = ((isM ml).getD i m0).id
    · obtain ⟨i, hi, rfl⟩ := hf
      rw [ofD_shD hok.2.1 hi] at hk
      exact ⟨i, hi, rfl, hk⟩
    · unfold ofD at hk
      rw [List.find?_eq_none.2 fun d hd => by
        obtain ⟨i, hi, rfl⟩ := List.mem_iff_getElem.1 hd
        have hi' : i < ml.length := by rw [shD_len] at hi; exact hi
        have := shD_get (rg := rg) (l := ml) (tl := al) hi'
        rw [getD_get _ _ hi] at this
        rw [this]
        simp only [beq_iff_eq]
        intro e
        exact hf ⟨i, hi', e.symm⟩] at hk
      cases hk
  obtain ⟨i, hi, rfl, hxi⟩ := key a ha
  obtain ⟨j, hj, rfl, hxj⟩ := key c hc
  unfold shOf at hxi hxj
  obtain ⟨p, hp, rfl⟩ := List.mem_map.1 hxi
  obtain ⟨q, hq, hqp⟩ := List.mem_map.1 hxj
  obtain ⟨hp1, hp2⟩ := List.mem_filter.1 hp
  obtain ⟨hq1, hq2⟩ := List.mem_filter.1 hq
  have hpq : p = q := by
    obtain ⟨u, hu, rfl⟩ := List.mem_iff_getElem.1 hp1
    obtain ⟨v, hv, rfl⟩ := List.mem_iff_getElem.1 hq1
    have hnd' := hsn
    unfold List.Nodup at hnd'
    rw [List.pairwise_map, List.pairwise_iff_getElem] at hnd'
    rcases Nat.lt_trichotomy u v with h | h | h
    · exact absurd hqp.symm (hnd' u v hu hv h)
    · subst h; rfl
    · exact absurd hqp (hnd' v u hv hu h)
  subst hpq
  simp only [beq_iff_eq] at hp2 hq2
  rw [← hp2, ← hq2]
end Go.Proofs.YtkcgokkgefgcjaaDoor.AS
end
section
namespace Go.Proofs.YtkcgokkgefgcjaaDoor.AS
open Go.Proofs.YtkcgokkgefgcjaaDoor.H Go.Proofs.YtkcgokkgefgcjaaDoor.G0
set_option linter.unusedVariables false
set_option linter.unusedSimpArgs false
set_option maxRecDepth 100000
/-- What a group may become, nobody being new. -/
structure Mv (G G' : GG) : Prop where
  se : G'.session = G.session
  rb : G'.rebalance = G.rebalance
  rd : G'.round = G.round
  gv : G'.given = G.given
  ids : (ids G').Sublist (ids G)
  gen : G.gen ≤ G'.gen
  sh : G'.gen = G.gen → G'.shares = G.shares
theorem Mv.refl (G : GG) : Mv G G := ⟨rfl, rfl, rfl, rfl, List.Sublist.refl _, Int.le_refl _, fun _ => rfl⟩
theorem Mv.trans {G1 G2 G3 : GG} (h : Mv G1 G2) (k : Mv G2 G3) : Mv G1 G3 :=
  ⟨k.se.trans h.se, k.rb.trans h.rb, k.rd.trans h.rd, k.gv.trans h.gv, k.ids.trans h.ids, Int.le_trans h.gen k.gen, fun e => by
    have h1 := h.gen
    have h2 := k.gen
    rw [k.sh (by omega), h.sh (by omega)]⟩
theorem Mv.ite {c : Prop} [Decidable c] {G G1 G2 : GG} (h1 : Mv G G1) (h2 : Mv G G2) : Mv G (if c then G1 else G2) := by
  split
  · exact h1
  · exact h2
section
variable {G : GG}
theorem mv_enter (G : GG) (st : Int) : Mv G (G.enter st) := ⟨rfl, rfl, rfl, rfl, List.Sublist.refl _, Int.le_refl _, fun _ => rfl⟩
theorem mv_outs (G : GG) (p : GM → Bool) : Mv G (G.outs p) := ⟨rfl, rfl, rfl, rfl, (List.filter_sublist).map _, Int.le_refl _, fun _ => rfl⟩
theorem mv_prepares (G : GG) : Mv G G.prepares := by
  unfold GG.prepares
  split
  · exact mv_enter G 1
  · refine ⟨rfl, rfl, rfl, rfl, ?_, Int.le_refl _, fun _ => rfl⟩
    show ((G.l.map _).map GM.id).Sublist (G.l.map GM.id)
    rw [List.map_map]
    exact List.Sublist.refl _
theorem gen_prepares (G : GG) : G.prepares.gen = G.gen := by unfold GG.prepares; split <;> rfl
theorem mv_forms1 (G : GG) : Mv G G.forms1 := by
  unfold GG.forms1
  simp only
  split
  · exact (mv_outs G _).trans (mv_enter _ 1)
  · refine (mv_outs G fun m => !m.joined).trans ⟨rfl, rfl, rfl, rfl, ?_, ?_, fun e => ?_⟩
    · show ((List.map _ _).map GM.id).Sublist _
      rw [List.map_map]
      exact List.Sublist.refl _
    · show _ ≤ _ + (1 : Int); omega
    · exfalso
      have : (G.outs fun m => !m.joined).gen + 1 = (G.outs fun m => !m.joined).gen := e
      omega
theorem mv_forms (G : GG) : Mv G G.forms := Mv.ite (mv_forms1 G) (Mv.refl G)
theorem gen_forms (G : GG) : G.forms.gen ≤ G.gen + 1 := by
  unfold GG.forms GG.forms1
  simp only
  repeat' split
  · show G.gen ≤ _; omega
  · show G.gen + 1 ≤ _; omega
  · omega
theorem mv_now (G : GG) (n : Int) : Mv G { G with now := n } := ⟨rfl, rfl, rfl, rfl, List.Sublist.refl _, Int.le_refl _, fun _ => rfl⟩
theorem mv_all (G : GG) (al : List Top) : Mv G { G with all := al } := ⟨rfl, rfl, rfl, rfl, List.Sublist.refl _, Int.le_refl _, fun _ => rfl⟩
theorem mv_goes1 (G : GG) : Mv G G.goes1 := by
  unfold GG.goes1
  simp only
  refine Mv.trans ?_ (mv_forms _)
  refine Mv.ite (Mv.trans ?_ (mv_enter _ 1)) ?_ <;> exact Mv.ite ((mv_outs G _).trans (mv_prepares _)) (mv_outs G _)
theorem mv_goes2 (G : GG) : Mv G G.goes2 := Mv.ite ((mv_outs G _).trans (mv_prepares _)) (Mv.refl G)
theorem mv_goes (G : GG) (n : Int) : Mv G (G.goes n) := ((mv_now G _).trans (mv_goes1 _)).trans (mv_goes2 _)
theorem mv_tick (G : GG) (al : List Top) (n : Int) : Mv G (G.tick al n) := (mv_all G al).trans (mv_goes _ n)
theorem gen_goes (G : GG) (n : Int) : (G.goes n).gen ≤ G.gen + 1 := by
  have h1 : ∀ G : GG, G.goes1.gen ≤ G.gen + 1 := fun G => by
    unfold GG.goes1
    simp only
    refine Int.le_trans (gen_forms _) ?_
    have e : ∀ (c : Prop) [Decidable c] (A B : GG), A.gen = G.gen → B.gen = G.gen → (if c then A else B).gen = G.gen := fun c _ A B ha hb => by
      split
      · exact ha
      · exact hb
    rw [e]
    · omega
    · show (if _ then _ else _ : GG).gen = _
      exact e _ _ _ (by rw [gen_prepares]; rfl) rfl
    · exact e _ _ _ (by rw [gen_prepares]; rfl) rfl
  unfold GG.goes GG.goes2
  split
  · rw [gen_prepares]; exact h1 { G with now := max G.now n }
  · exact h1 { G with now := max G.now n }
theorem gen_tick (G : GG) (al : List Top) (n : Int) : (G.tick al n).gen ≤ G.gen + 1 := gen_goes _ n
theorem mv_upd (G : GG) (id : By) (f : GM → GM) (hf : ∀ m, (f m).id = m.id) : Mv G (G.upd id f) := by
  refine ⟨?_, ?_, ?_, ?_, ?_, ?_, ?_⟩
  case refine_5 => unfold AS.ids; rw [upd_ids G id f hf]; exact List.Sublist.refl _
  all_goals (unfold GG.upd; split)
  all_goals first | rfl | exact Int.le_refl _ | (intro _; rfl)
theorem mv_heard (G : GG) (id : By) (gen n : Int) : Mv G (G.heard id gen n).1 := by
  unfold GG.heard
  simp only
  split
  · exact (mv_goes G n).trans (mv_upd (G.goes n) id (fun m => { m with heard := (G.goes n).now }) fun m => rfl)
  · exact mv_goes G n
theorem mv_sync (G : GG) (id : By) (gen n : Int) : Mv G (G.sync id gen n).1 := by
  unfold GG.sync
  split
  · simp only
    refine Mv.trans ((mv_heard G id gen n).trans (mv_upd _ id (fun m => { m with synced := true }) fun m => rfl)) ?_
    exact Mv.ite (mv_enter _ 4) (Mv.refl _)
  · exact mv_heard G id gen n
structure Nm (G : GG) : Prop where
  nd : (ids G).Nodup
  nm : ∀ x ∈ ids G, ∃ j : Nat, (j : Int) ≤ G.given ∧ x = 109 :: decL j
  gv : 0 ≤ G.given
theorem Nm.mv {G' : GG} (h : Nm G) (k : Mv G G') : Nm G' := ⟨h.nd.sublist k.ids, fun x hx => by rw [k.gv]; exact h.nm x (k.ids.subset hx), by rw [k.gv]; exact h.gv⟩
theorem Nm.ne {x : By} (h : Nm G) (hx : x ∈ ids G) : x ≠ [] := by
  obtain ⟨j, -, rfl⟩ := h.nm x hx
  exact List.cons_ne_nil _ _
theorem updAt_ids (G : GG) (i : Nat) (f : GM → GM) (hf : ∀ m, (f m).id = m.id) (hi : i < G.l.length) : ids (G.updAt i f) = ids G := by
  unfold ids GG.updAt
  simp only
  rw [List.map_set, hf, getD_get _ _ hi]
  have : G.l[i].id = (G.l.map GM.id)[i]'(by simpa using hi) := by simp
  rw [this, List.set_getElem_self]
theorem updAt_len (G : GG) (i : Nat) (f : GM → GM) : (G.updAt i f).l.length = G.l.length := by unfold GG.updAt; simp
theorem mv_updAt (G : GG) (i : Nat) (f : GM → GM) (hf : ∀ m, (f m).id = m.id) (hi : i < G.l.length) : Mv G (G.updAt i f) :=
  ⟨rfl, rfl, rfl, rfl, by rw [updAt_ids G i f hf hi]; exact List.Sublist.refl _, Int.le_refl _, fun _ => rfl⟩
theorem prepares_len (G : GG) : G.prepares.l.length = G.l.length := by
  have := congrArg List.length (prepares_ids G)
  rw [List.length_map, List.length_map] at this
  exact this
theorem mv_join3 (G : GG) {i : Nat} (f : Bool) (tp : List By) (hi : i < G.l.length) : Mv G (G.join3 i f tp) := by
  have h3 : Mv G (G.updAt i fun m => { m with heard := G.now }) := mv_updAt G i _ (fun m => rfl) hi
  unfold GG.join3
  simp only
  split
  · refine Mv.trans ?_ (mv_forms _)
    have l4 : i < ((G.updAt i fun m => { m with heard := G.now }).updAt i fun m => { m with tp := tp }).l.length := by rw [updAt_len, updAt_len]; exact hi
    have h4 := h3.trans (mv_updAt _ i (fun m => { m with tp := tp }) (fun m => rfl) (by rw [updAt_len]; exact hi))
    generalize ((G.updAt i fun m => { m with heard := G.now }).updAt i fun m => { m with tp := tp }) = G4 at *
    split
    · exact h4.trans (mv_updAt _ i _ (fun m => rfl) l4)
    · exact (h4.trans (mv_prepares G4)).trans (mv_updAt _ i _ (fun m => rfl) (by rw [prepares_len]; exact l4))
  · exact h3
theorem gen_join3 (G : GG) (i : Nat) (f : Bool) (tp : List By) : (G.join3 i f tp).gen ≤ G.gen + 1 := by
  unfold GG.join3
  simp only
  split
  · refine Int.le_trans (gen_forms _) ?_
    show (if _ then _ else _ : GG).gen + 1 ≤ _
    split
    · show G.gen + 1 ≤ _; omega
    · rw [gen_prepares]; show G.gen + 1 ≤ _; omega
  · show G.gen ≤ _; omega
theorem joinI_lt (G : GG) (id : By) (h : ¬ (id ≠ [] ∧ G.at_ id = none)) : G.joinI id < (G.join2 id).l.length := by
  unfold GG.joinI GG.join2
  by_cases hid : id = []
  · rw [if_pos hid, if_pos hid]
    show G.l.length < (G.l ++ [_]).length
    simp
  · rw [if_neg hid, if_neg hid]
    cases hi : G.at_ id with
    | none => exact absurd ⟨hid, hi⟩ h
    | some i => exact (List.findIdx?_eq_some_iff_getElem.1 hi).1
theorem join2_gen (G : GG) (id : By) : (G.join2 id).gen = G.gen ∧ (G.join2 id).shares = G.shares ∧ (G.join2 id).session = G.session ∧ (G.join2 id).rebalance = G.rebalance ∧ (G.join2 id).round = G.round ∧ (G.join2 id).state = G.state ∧ (G.join2 id).now = G.now ∧ (G.join2 id).since = G.since := by
  unfold GG.join2
  split <;> exact ⟨rfl, rfl, rfl, rfl, rfl, rfl, rfl, rfl⟩
theorem join2_nm (h : Nm G) (id : By) : Nm (G.join2 id) := by
  unfold GG.join2
  split
  · rename_i hid
    have hg := h.gv
    have enm : G.nm id = 109 :: decL (G.given + 1).toNat := by unfold GG.nm; rw [if_pos hid]
    refine ⟨?_, fun x hx => ?_, by show 0 ≤ G.given + 1; omega⟩
    · show ((G.l ++ [_]).map GM.id).Nodup
      rw [List.map_append, List.nodup_append]
      refine ⟨h.nd, by simp, fun x hx y hy => ?_⟩
      simp only [List.map_cons, List.map_nil, List.mem_singleton] at hy
      subst hy
      obtain ⟨j, hj, rfl⟩ := h.nm x hx
      rw [enm]
      intro e
      have := decL_inj (List.cons.inj e).2
      omega
    · have hx' : x ∈ (G.l ++ [(⟨G.nm id, [], 0, false, false⟩ : GM)]).map GM.id := hx
      rw [List.map_append] at hx'
      rcases List.mem_append.1 hx' with hx' | hx'
      · obtain ⟨j, hj, rfl⟩ := h.nm x hx'
        exact ⟨j, by show (j : Int) ≤ G.given + 1; omega, rfl⟩
      · simp only [List.map_cons, List.map_nil, List.mem_singleton] at hx'
        rw [hx', enm]
        exact ⟨_, by show (((G.given + 1).toNat : Nat) : Int) ≤ G.given + 1; omega, rfl⟩
  · exact h
/-- What Join may bring. -/
structure Mj (G G' : GG) : Prop where
  se : G'.session = G.session
  rb : G'.rebalance = G.rebalance
  rd : G'.round = G.round
  gv : G.given ≤ G'.given ∧ G'.given ≤ G.given + 1
  gen : G.gen ≤ G'.gen ∧ G'.gen ≤ G.gen + 2
  sh : G'.gen = G.gen → G'.shares = G.shares
  nm : Nm G → Nm G'
theorem mj_join1 (G : GG) (id : By) (tp : List By) : Mj G (G.join1 id tp).1 ∧ (G.join1 id tp).1.gen ≤ G.gen + 1 := by
  have hr : Mj G G ∧ G.gen ≤ G.gen + 1 := ⟨⟨rfl, rfl, rfl, ⟨Int.le_refl _, by omega⟩, ⟨Int.le_refl _, by omega⟩, fun _ => rfl, id_⟩, by omega⟩
  unfold GG.join1
  repeat' split
  · exact hr
  · exact hr
  · exact hr
  · rename_i h1 h2 h3
    have hm := mv_join3 (G.join2 id) (decide (id = [])) tp (joinI_lt G id h3)
    obtain ⟨e1, e2, e3, e4, e5, -⟩ := join2_gen G id
    have hg := gen_join3 (G.join2 id) (G.joinI id) (decide (id = [])) tp
    have hv : (G.join2 id).given = G.given ∨ (G.join2 id).given = G.given + 1 := by unfold GG.join2; split; exact .inr rfl; exact .inl rfl
    have hgen := hm.gen
    rw [e1] at hg hgen
    refine ⟨⟨hm.se.trans e3, hm.rb.trans e4, hm.rd.trans e5, ?_, ⟨hgen, Int.le_trans hg (by omega)⟩, fun e => ?_, fun h => (join2_nm h id).mv hm⟩, hg⟩
    · have hgv := hm.gv
      simp only
      rcases hv with hv | hv <;> omega
    · have := hm.sh (by rw [e1]; exact e)
      exact this.trans e2
  where id_ {α : Prop} (x : α) : α := x
theorem mj_join (G : GG) (id : By) (tp : List By) (al : List Top) (n : Int) : Mj G (G.join id tp al n).1 := by
  have ht := mv_tick G al n
  have hg := gen_tick G al n
  obtain ⟨hj, hgj⟩ := mj_join1 (G.tick al n) id tp
  unfold GG.join
  have h1 := ht.gen
  have h2 := hj.gen
  refine ⟨hj.se.trans ht.se, hj.rb.trans ht.rb, hj.rd.trans ht.rd, by rw [← ht.gv]; exact hj.gv, ⟨by omega, by omega⟩, fun e => ?_, fun h => hj.nm (h.mv ht)⟩
  rw [hj.sh (by omega), ht.sh (by omega)]
theorem nm_new {session rebalance gen : Int} {round : Bool} : Nm (GG.new session rebalance gen round) := ⟨List.nodup_nil, (by rintro x ⟨⟩), Int.le_refl 0⟩
end
end Go.Proofs.YtkcgokkgefgcjaaDoor.AS
end
section
namespace Go.Proofs.YtkcgokkgefgcjaaDoor.AS
open Go.Proofs.YtkcgokkgefgcjaaDoor.H Go.Proofs.YtkcgokkgefgcjaaDoor.G0
set_option linter.unusedVariables false
set_option linter.unusedSimpArgs false
set_option maxRecDepth 100000
structure St (G : GG) : Prop where
  one : G.state = 1 ↔ G.l = []
  rng : G.state = 1 ∨ G.state = 2 ∨ G.state = 3 ∨ G.state = 4
def Late (G : GG) : Prop := ∀ m ∈ G.l, ¬ G.session < G.now - m.heard
def Two (G : GG) : Prop := G.state = 2 → ¬ ((G.l.all (·.joined) || G.over) = true)
def Three (G : GG) : Prop := ¬ (G.state = 3 ∧ G.over = true ∧ (G.any fun m => !m.synced) = true)
structure Quiet (G : GG) : Prop where
  late : Late G
  two : Two G
  three : Three G
  st : St G
section
variable {G : GG}
theorem over0 {G : GG} (h : 1 ≤ G.rebalance) (e : G.since = G.now) : G.over = false := by
  unfold GG.over
  rw [e, decide_eq_false_iff_not]
  omega
theorem goes_quiet' {n : Int} (h : Quiet { G with now := max G.now n }) : G.goes n = { G with now := max G.now n } := by
  obtain ⟨h1, h2, h3, h4⟩ := h
  unfold GG.goes
  generalize ({ G with now := max G.now n } : GG) = H at *
  have e1 : H.goes1 = H := by
    unfold GG.goes1
    have ha : (H.any fun m => decide (H.session < H.now - m.heard)) = false := by
      unfold GG.any
      rw [List.any_eq_false]
      intro m hm
      simpa using h1 m hm
    rw [outs_none ha, ha]
    simp only [Bool.false_and, Bool.false_eq_true, if_false]
    rw [if_neg (fun hh => by
      have := h4.one.2 hh.2
      omega)]
    unfold GG.forms
    rw [if_neg (fun hh => h2 hh.1 hh.2)]
  rw [e1]
  unfold GG.goes2
  rw [if_neg h3]
theorem goes_quiet {n : Int} (h : Quiet G) (hn : n ≤ G.now) : G.goes n = G := by
  have e : ({ G with now := max G.now n } : GG) = G := by rw [Int.max_eq_left hn]
  have := goes_quiet' (G := G) (n := n) (by rw [e]; exact h)
  rw [this, e]
theorem late_outs {p : GM → Bool} (h : Late G) : Late (G.outs p) := fun m hm => h m (List.mem_filter.1 hm).1
theorem late_prepares (h : Late G) : Late G.prepares := by
  unfold GG.prepares
  split
  · exact h
  · intro m hm
    obtain ⟨m', hm', rfl⟩ := List.mem_map.1 (show m ∈ G.l.map _ from hm)
    exact h m' hm'
theorem late_forms (h : Late G) : Late G.forms := by
  unfold GG.forms GG.forms1
  simp only
  repeat' split
  · exact late_outs h
  · intro m hm
    obtain ⟨m', hm', rfl⟩ := List.mem_map.1 (show m ∈ List.map _ _ from hm)
    exact late_outs h m' hm'
  · exact h
theorem st_prepares (G : GG) : St G.prepares := by
  unfold GG.prepares
  split
  · rename_i h
    exact ⟨⟨fun _ => h, fun _ => rfl⟩, .inl rfl⟩
  · rename_i h
    refine ⟨⟨fun e => ?_, fun e => ?_⟩, .inr (.inl rfl)⟩
    · exact absurd (show (2 : Int) = 1 from e) (by decide)
    · exact absurd (List.map_eq_nil_iff.1 e) h
theorem two_prepares (hR : 1 ≤ G.rebalance) : Two G.prepares := by
  unfold GG.prepares
  split
  · intro e
    exact absurd (show (1 : Int) = 2 from e) (by decide)
  · rename_i h
    intro _ hh
    rw [over0 (G := { G.enter 2 with l := G.l.map fun m => { m with joined := false } }) hR rfl, Bool.or_false, List.all_map] at hh
    cases hl : G.l with
    | nil => exact h hl
    | cons m r => rw [hl] at hh; simp at hh
theorem three_prepares (G : GG) : Three G.prepares := by
  unfold GG.prepares Three
  split
  · rintro ⟨e, -⟩
    exact absurd (show (1 : Int) = 3 from e) (by decide)
  · rintro ⟨e, -⟩
    exact absurd (show (2 : Int) = 3 from e) (by decide)
theorem st_forms (h : St G) : St G.forms := by
  unfold GG.forms GG.forms1
  simp only
  repeat' split
  · rename_i h1
    exact ⟨⟨fun _ => h1, fun _ => rfl⟩, .inl rfl⟩
  · rename_i h1
    refine ⟨⟨fun e => ?_, fun e => ?_⟩, .inr (.inr (.inl rfl))⟩
    · exact absurd (show (3 : Int) = 1 from e) (by decide)
    · exact absurd (List.map_eq_nil_iff.1 e) h1
  · exact h
theorem two_forms (G : GG) : Two G.forms := by
  unfold GG.forms
  split
  · unfold GG.forms1
    simp only
    split
    · intro e; exact absurd (show (1 : Int) = 2 from e) (by decide)
    · intro e; exact absurd (show (3 : Int) = 2 from e) (by decide)
  · rename_i h
    intro e hh
    exact h ⟨e, hh⟩
theorem three_forms (hR : 1 ≤ G.rebalance) (h : G.state = 2 ∨ Three G) : Three G.forms := by
  unfold GG.forms
  split
  · unfold GG.forms1
    simp only
    split
    · rintro ⟨e, -⟩; exact absurd (show (1 : Int) = 3 from e) (by decide)
    · rintro ⟨-, e, -⟩
      refine Bool.false_ne_true (Eq.trans (Eq.symm ?_) e)
      exact over0 hR rfl
  · rcases h with h | h
    · rintro ⟨e, -⟩; omega
    · exact h
theorem quiet_goes {n : Int} (hR : 1 ≤ G.rebalance) (hst : St G) : Quiet (G.goes n) := by
  have key : ∀ H : GG, 1 ≤ H.rebalance → St H → Quiet H.goes1.goes2 := by
    intro H hR hst
    have hlate : Late (H.outs fun m => decide (H.session < H.now - m.heard)) := fun m hm => by
      have := (List.mem_filter.1 hm).2
      show ¬ H.session < H.now - m.heard
      simpa using this
    obtain ⟨h1, h2, h3⟩ : Late H.goes1 ∧ St H.goes1 ∧ Two H.goes1 := by
      unfold GG.goes1
      simp only
      generalize hg2 : (H.outs fun m => decide (H.session < H.now - m.heard)) = G2 at *
      have hst2 : (H.any fun m => decide (H.session < H.now - m.heard)) = false → St G2 := fun ha => by
        rw [← hg2, outs_none ha]; exact hst
      have hstate : G2.state = H.state := by rw [← hg2]; rfl
      have hs0 := hst.rng
      generalize (H.any fun m => decide (H.session < H.now - m.heard)) = an at *
      obtain ⟨G3, hG3⟩ : ∃ G3, (if (an && !decide (G2.state = 2)) = true then G2.prepares else G2) = G3 := ⟨_, rfl⟩
      rw [hG3]
      have hl3 : Late G3 := by
        rw [← hG3]; split
        · exact late_prepares hlate
        · exact hlate
      have hs3 : St G3 ∨ G3.state = 2 := by
        rw [← hG3]; split
        · exact .inl (st_prepares _)
        · rename_i hc
          cases han : an with
          | false => exact .inl (hst2 han)
          | true =>
            rw [han] at hc
            exact .inr (by simpa using hc)
      obtain ⟨G4, hG4⟩ : ∃ G4, (if G3.state = 2 ∧ G3.l = [] then G3.enter 1 else G3) = G4 := ⟨_, rfl⟩
      rw [hG4]
      have hl4 : Late G4 := by
        rw [← hG4]; split
        · exact hl3
        · exact hl3
      have hs4 : St G4 := by
        rw [← hG4]; split
        · rename_i hc
          exact ⟨⟨fun _ => hc.2, fun _ => rfl⟩, .inl rfl⟩
        · rename_i hc
          rcases hs3 with hs3 | hs3
          · exact hs3
          · refine ⟨⟨fun e => by omega, fun e => absurd ⟨hs3, e⟩ hc⟩, .inr (.inl hs3)⟩
      exact ⟨late_forms hl4, st_forms hs4, two_forms G4⟩
    have hR1 : 1 ≤ H.goes1.rebalance := by rw [(mv_goes1 H).rb]; exact hR
    generalize H.goes1 = H1 at *
    unfold GG.goes2
    split
    · exact ⟨late_prepares (late_outs h1), two_prepares hR1, three_prepares _, st_prepares _⟩
    · rename_i hc
      exact ⟨h1, h3, hc, h2⟩
  exact key { G with now := max G.now n } hR ⟨hst.one, hst.rng⟩
theorem quiet_tick {al : List Top} {n : Int} (hR : 1 ≤ G.rebalance) (hst : St G) : Quiet (G.tick al n) := quiet_goes (G := { G with all := al }) hR ⟨hst.one, hst.rng⟩
theorem quiet_upd (h : Quiet G) (id : By) (f : GM → GM) (hf : ∀ m, (f m).heard = m.heard ∨ (f m).heard = G.now) (hj : ∀ m, (f m).joined = m.joined) (hs : ∀ m, m.synced = true → (f m).synced = true) (hS : 0 ≤ G.session) : Quiet (G.upd id f) := by
  unfold GG.upd
  cases hi : G.at_ id with
  | none => exact h
  | some i =>
    have hlt : i < G.l.length := (List.findIdx?_eq_some_iff_getElem.1 hi).1
    obtain ⟨h1, h2, h3, h4⟩ := h
    have hm := getD_memD gm0 hlt
    have hpos : 0 < G.l.length := by omega
    have hne : G.l.set i (f (G.l.getD i gm0)) ≠ [] := fun e => by
      have := congrArg List.length e
      rw [List.length_set] at this
      simp at this
      rw [this] at hpos
      exact absurd hpos (by simp)
    have hne0 : G.l ≠ [] := fun e => by rw [e] at hpos; exact absurd hpos (by simp)
    refine ⟨fun m hm' => ?_, fun e hh => ?_, ?_, ⟨⟨fun e => absurd (h4.one.1 e) hne0, fun e => absurd e hne⟩, h4.rng⟩⟩
    · rcases List.mem_or_eq_of_mem_set (show m ∈ G.l.set i _ from hm') with hm' | rfl
      · exact h1 m hm'
      · rcases hf (G.l.getD i gm0) with e | e
        · rw [e]; exact h1 _ hm
        · rw [e]; show ¬ G.session < G.now - G.now; omega
    · refine h2 e ?_
      have : (G.l.set i (f (G.l.getD i gm0))).all (·.joined) = G.l.all (·.joined) := by
        have e2 : ∀ l : List GM, l.all (·.joined) = (l.map (·.joined)).all (fun x => x) := fun l => by rw [List.all_map]; rfl
        rw [e2, e2, List.map_set, hj, getD_get _ _ hlt]
        have : G.l[i].joined = (G.l.map (·.joined))[i]'(by simpa using hlt) := by simp
        rw [this, List.set_getElem_self]
      rw [← this]
      exact hh
    · rintro ⟨e1, e2, e3⟩
      refine h3 ⟨e1, e2, ?_⟩
      unfold GG.any at e3 ⊢
      rw [List.any_eq_true] at e3 ⊢
      obtain ⟨m, hm', hms⟩ := e3
      rcases List.mem_or_eq_of_mem_set (show m ∈ G.l.set i _ from hm') with hm' | rfl
      · exact ⟨m, hm', hms⟩
      · refine ⟨_, hm, ?_⟩
        cases hsy : (G.l.getD i gm0).synced with
        | false => rfl
        | true => rw [hs _ hsy] at hms; cases hms
theorem quiet_heard {id : By} {gen n : Int} (hR : 1 ≤ G.rebalance) (hS : 0 ≤ G.session) (hst : St G) : Quiet (G.heard id gen n).1 := by
  have h := quiet_goes (n := n) hR hst
  have hS' : 0 ≤ (G.goes n).session := by rw [(mv_goes G n).se]; exact hS
  unfold GG.heard
  simp only
  split
  · exact quiet_upd h id (fun m => { m with heard := (G.goes n).now }) (fun m => .inr rfl) (fun m => rfl) (fun m hm => hm) hS'
  · exact h
theorem quiet_four (h : Quiet G) (hs : G.state = 3) : Quiet (G.enter 4) := by
  obtain ⟨h1, h2, h3, h4⟩ := h
  refine ⟨h1, fun e => absurd (show (4 : Int) = 2 from e) (by decide), ?_, ⟨⟨fun e => absurd (show (4 : Int) = 1 from e) (by decide), fun e => ?_⟩, .inr (.inr (.inr rfl))⟩⟩
  · rintro ⟨e, -⟩; exact absurd (show (4 : Int) = 3 from e) (by decide)
  · have := h4.one.2 e
    omega
theorem quiet_sync {id : By} {gen n : Int} (hR : 1 ≤ G.rebalance) (hS : 0 ≤ G.session) (hst : St G) : Quiet (G.sync id gen n).1 := by
  have h := quiet_heard (id := id) (gen := gen) (n := n) hR hS hst
  have hS' : 0 ≤ (G.heard id gen n).1.session := by rw [(mv_heard G id gen n).se]; exact hS
  unfold GG.sync
  split
  · have h2 := quiet_upd h id (fun m => { m with synced := true }) (fun m => .inl rfl) (fun m => rfl) (fun m hm => rfl) hS'
    simp only
    split
    · rename_i hc
      exact quiet_four h2 hc.1
    · exact h2
  · exact h
theorem quiet_join3 {i : Nat} {f : Bool} {tp : List By} (hi : i < G.l.length) (hR : 1 ≤ G.rebalance) (hS : 0 ≤ G.session) (hl : ∀ j m, G.l[j]? = some m → j ≠ i → ¬ G.session < G.now - m.heard) (hq : f = false → Quiet G) : Quiet (G.join3 i f tp) := by
  have hl3 : Late (G.updAt i fun m => { m with heard := G.now }) := fun m hm => by
    obtain ⟨j, hj, rfl⟩ := List.mem_iff_getElem.1 (show m ∈ G.l.set i _ from hm)
    rw [List.length_set] at hj
    rw [List.getElem_set]
    split
    · show ¬ G.session < G.now - G.now; omega
    · rename_i hne
      exact hl j _ (List.getElem?_eq_getElem hj) (Ne.symm hne)
  unfold GG.join3
  simp only
  split
  · generalize hg4 : ((G.updAt i fun m => { m with heard := G.now }).updAt i fun m => { m with tp := tp }) = G4
    have hlen4 : G4.l.length = G.l.length := by rw [← hg4, updAt_len, updAt_len]
    have hl4 : Late G4 := fun m hm => by
      rw [← hg4] at hm ⊢
      rcases List.mem_or_eq_of_mem_set (show m ∈ (G.updAt i fun m => { m with heard := G.now }).l.set i _ from hm) with hm | rfl
      · exact hl3 m hm
      · exact hl3 ((G.updAt i fun m => { m with heard := G.now }).l.getD i gm0) (getD_memD gm0 (by rw [updAt_len]; exact hi))
    have hR4 : 1 ≤ G4.rebalance := by rw [← hg4]; exact hR
    generalize hg5 : (if G4.state = 2 then G4 else G4.prepares) = G5
    have hl5 : Late G5 := by
      rw [← hg5]; split
      · exact hl4
      · exact late_prepares hl4
    have hlen5 : G5.l.length = G.l.length := by
      rw [← hg5]; split
      · exact hlen4
      · rw [prepares_len, hlen4]
    have hs5 : G5.state = 2 := by
      rw [← hg5]; split
      · assumption
      · unfold GG.prepares
        rw [if_neg (fun e => by rw [e] at hlen4; simp at hlen4; omega)]
        rfl
    have hR5 : 1 ≤ G5.rebalance := by
      rw [← hg5]; split
      · exact hR4
      · rw [(mv_prepares G4).rb]; exact hR4
    have hl6 : Late (G5.updAt i fun m => { m with joined := true }) := fun m hm => by
      rcases List.mem_or_eq_of_mem_set (show m ∈ G5.l.set i _ from hm) with hm | rfl
      · exact hl5 m hm
      · exact hl5 (G5.l.getD i gm0) (getD_memD gm0 (by omega))
    have hst6 : St (G5.updAt i fun m => { m with joined := true }) := ⟨⟨fun e => by
      have : G5.state = 1 := e
      omega, fun e => by
      have := congrArg List.length e
      rw [updAt_len, hlen5] at this
      simp only [List.length_nil] at this
      omega⟩, .inr (.inl hs5)⟩
    exact ⟨late_forms hl6, two_forms _, three_forms hR5 (.inl hs5), st_forms hst6⟩
  · rename_i hc
    have hf : f = false := by
      cases f
      · rfl
      · exact absurd (.inl rfl) hc
    obtain ⟨h1, h2, h3, h4⟩ := hq hf
    have hs : G.state ≠ 2 := fun e => hc (.inr (.inl e))
    have hne0 : G.l ≠ [] := fun e => by rw [e] at hi; exact absurd hi (by simp)
    refine ⟨hl3, fun e => absurd e hs, ?_, ⟨⟨fun e => absurd (h4.one.1 e) hne0, fun e => ?_⟩, h4.rng⟩⟩
    · rintro ⟨e1, e2, e3⟩
      refine h3 ⟨e1, e2, ?_⟩
      unfold GG.any at e3 ⊢
      rw [List.any_eq_true] at e3 ⊢
      obtain ⟨m, hm', hms⟩ := e3
      rcases List.mem_or_eq_of_mem_set (show m ∈ G.l.set i _ from hm') with hm' | rfl
      · exact ⟨m, hm', hms⟩
      · exact ⟨_, getD_memD gm0 hi, hms⟩
    · have := congrArg List.length e
      rw [updAt_len] at this
      simp only [List.length_nil] at this
      omega
theorem quiet_join1 {id : By} {tp : List By} (h : Quiet G) (hR : 1 ≤ G.rebalance) (hS : 0 ≤ G.session) : Quiet (G.join1 id tp).1 := by
  unfold GG.join1
  repeat' split
  · exact h
  · exact h
  · exact h
  · rename_i h1 h2 h3
    obtain ⟨e1, e2, e3, e4, e5, e6, e7, e8⟩ := join2_gen G id
    refine quiet_join3 (joinI_lt G id h3) (by rw [e4]; exact hR) (by rw [e3]; exact hS) (fun j m hj hne => ?_) (fun hf => ?_)
    · rw [e3, e7]
      have hm : m ∈ G.l := by
        unfold GG.join2 GG.joinI at *
        by_cases hid : id = []
        · rw [if_pos hid] at hj hne
          have hj' : (G.l ++ [(⟨G.nm id, [], 0, false, false⟩ : GM)])[j]? = some m := hj
          rcases Nat.lt_trichotomy j G.l.length with hlt | heq | hgt
          · rw [List.getElem?_append_left hlt] at hj'
            exact List.mem_of_getElem? hj'
          · exact absurd heq hne
          · rw [List.getElem?_eq_none (by simp; omega)] at hj'
            cases hj'
        · rw [if_neg hid] at hj
          exact List.mem_of_getElem? hj
      exact h.late m hm
    · have hid : id ≠ [] := of_decide_eq_false hf
      have : G.join2 id = G := by unfold GG.join2; rw [if_neg hid]
      rw [this]
      exact h
theorem quiet_join {id : By} {tp : List By} {al : List Top} {n : Int} (hR : 1 ≤ G.rebalance) (hS : 0 ≤ G.session) (hst : St G) : Quiet (G.join id tp al n).1 :=
  quiet_join1 (quiet_tick hR hst) (by rw [(mv_tick G al n).rb]; exact hR) (by rw [(mv_tick G al n).se]; exact hS)
theorem quiet_new {session rebalance gen : Int} {round : Bool} : Quiet (GG.new session rebalance gen round) :=
  ⟨(by rintro m ⟨⟩), fun e => absurd (show (1 : Int) = 2 from e) (by decide), (by rintro ⟨e, -⟩; exact absurd (show (1 : Int) = 3 from e) (by decide)), ⟨⟨fun _ => rfl, fun _ => rfl⟩, .inl rfl⟩⟩
end
end Go.Proofs.YtkcgokkgefgcjaaDoor.AS
end
section
namespace Go.Proofs.YtkcgokkgefgcjaaDoor.AS
open Go.Proofs.YtkcgokkgefgcjaaDoor.H Go.Proofs.YtkcgokkgefgcjaaDoor.G0
set_option linter.unusedVariables false
set_option linter.unusedSimpArgs false
set_option maxRecDepth 100000
section
variable {G : GG}
theorem join_first (hl : G.l = []) (hs : G.state = 1) {tp : List By} (htp : tp.length ≤ 30) (al : List Top) {n : Int} (hn : G.now ≤ n) : G.join [] tp al n =
    ({ G with all := al, now := n, since := n, given := G.given + 1, state := 3, gen := G.gen + 1, l := [⟨G.nm [], tp, n, true, false⟩], shares := sharesOf G.round [(G.nm [], tp)] al }, G.nm [], G.gen + 1, 0) := by
  have hq : Quiet { ({ G with all := al } : GG) with now := max G.now n } := by
    refine ⟨fun m hm => ?_, fun e => ?_, ?_, ⟨⟨fun _ => hl, fun _ => hs⟩, .inl hs⟩⟩
    · have : m ∈ G.l := hm
      rw [hl] at this
      cases this
    · have : G.state = 2 := e
      omega
    · rintro ⟨e, -⟩
      have : G.state = 3 := e
      omega
  have e : G.tick al n = { G with all := al, now := n } := by
    unfold GG.tick
    rw [goes_quiet' hq]
    simp only [Int.max_eq_right hn]
  unfold GG.join
  rw [e]
  unfold GG.join1
  rw [if_neg (by omega), if_neg (by simp [hl]), if_neg (by simp)]
  have e2 : ({ G with all := al, now := n } : GG).join2 [] = { G with all := al, now := n, given := G.given + 1, l := [⟨G.nm [], [], 0, false, false⟩] } := by
    unfold GG.join2
    rw [if_pos rfl]
    simp [hl, GG.nm]
  have ei : ({ G with all := al, now := n } : GG).joinI [] = 0 := by unfold GG.joinI; rw [if_pos rfl]; simp [hl]
  rw [e2, ei]
  have e3 : ({ G with all := al, now := n, given := G.given + 1, l := [⟨G.nm [], [], 0, false, false⟩] } : GG).join3 0 (decide (([] : By) = [])) tp = { G with all := al, now := n, since := n, given := G.given + 1, state := 3, gen := G.gen + 1, l := [⟨G.nm [], tp, n, true, false⟩], shares := sharesOf G.round [(G.nm [], tp)] al } := by
    simp [GG.join3, GG.updAt, GG.prepares, GG.enter, GG.forms, GG.forms1, GG.outs, hs]
  rw [e3]
  simp only [GG.nm]
  rfl
/-- Who is asked for is there: the first. -/
theorem at_one {id : By} {m : GM} (hl : G.l = [m]) (h : m.id = id) : G.at_ id = some 0 := by
  unfold GG.at_
  rw [hl]
  simp [h]
theorem awake8 (s : HS) : HC Tryd.prog 8 [] s (fun v t => v = .lit (.bool true)) := by
  refine HC8 ?_
  unfold c8
  refine (new9 (session := 10) (rebalance := 5) (gen := 0) (round := false) (by omega) (by omega) (by omega) s).mono ?_
  rintro _ t ⟨g, hg, rfl, h0⟩
  simp only [vExtract, List.getElem?_cons_succ, List.getElem?_cons_zero, bindO]
  refine (new9_bad t false 5 0).mono ?_
  rintro _ t1 ⟨rfl, rfl⟩
  simp only [vExtract, List.getElem?_cons_succ, List.getElem?_cons_zero]
  refine Join.of (fun xs u => u = t1 ∧ xs = [.lit (.bool false)]) ?_ ?_
  rotate_left
  · intro K9 hK9
    simp only [neq_24, eqp23, decide_true, Bool.not_true, hcond]
    exact hK9 _ _ ⟨rfl, rfl⟩
  rintro _ u ⟨rfl, rfl⟩
  simp only [List.headD_cons, hcond]
  refine (all20 3 u).mono ?_
  rintro _ t2 ⟨rfl, a, c, rfl, ha, -, -⟩
  simp only [vExtract, List.getElem?_cons_succ, List.getElem?_cons_zero]
  refine hBS_in (cs := rows strC [[98]]) rfl fun i1 h1 => ?_
  have hb0 := Bd.new (session := 10) (rebalance := 5) (gen := 0) (round := false) (by omega)
  have hj := join_first (G := GG.new 10 5 0 false) rfl rfl (tp := [[98]]) (by simp) (allL 3) (n := 0) (Int.le_refl 0)
  have hup := lit_up (s := t2) (id := i1) (sz := 1) (n := 1) (cs := rows strC [[98]]) h1 rfl (by omega) [.ptr g 0, strV []] [a, .lit (.int .i64 0)] (fun q cs => rfl) (fun q cs => by obtain ⟨rfl, -⟩ := ha; simp [frz2, frz1, frz0, rowL])
  have hcall := join10 h0 hb0 (by omega) ha (allL_len 3) (now := 0) (by omega) ⟨by show (0 : Int) ≤ 0; omega, by show (0 : Int) < 99; omega⟩ [] (some [[98]]) (by simp)
  refine (HC.upArgs hup hcall).mono ?_
  rintro _ t3 ⟨h3, rfl⟩
  have hb1 := hb0.join (id := []) (tp := [[98]]) (al := allL 3) (now := 0) (by omega) (by simp) (allL_len 3) (by omega)
  have hq := quiet_join (id := []) (tp := [[98]]) (al := allL 3) (n := 0) (G := GG.new 10 5 0 false) (by show (1 : Int) ≤ 5; omega) (by show (0 : Int) ≤ 10; omega) quiet_new.st
  simp only [Option.getD_some] at h3 ⊢
  have hnm : (GG.new 10 5 0 false).nm [] = [109, 49] := by
    unfold GG.nm
    rw [if_pos rfl]
    show 109 :: decL 1 = _
    rw [decL_small (by omega)]
    rfl
  rw [hnm] at hj
  have hj' : (GG.new 10 5 0 false).join [] [[98]] (allL 3) 0 = (⟨10, 5, false, 3, 1, 1, 0, 0, allL 3, [⟨[109, 49], [[98]], 0, true, false⟩], sharesOf false [([109, 49], [[98]])] (allL 3)⟩, [109, 49], 1, 0) := hj
  rw [hj'] at h3 hb1 hq ⊢
  have hsum := resD_sum (rd := false) (l := [([109, 49], [[98]])]) (al := allL 3) ⟨by decide, by decide, by decide⟩
  simp only [List.map_cons, List.map_nil, List.sum_cons, List.sum_nil, Nat.add_zero] at hsum
  rw [show partsOf (fun nm => [(([109, 49] : By), [([98] : By)])].any fun p => decide (nm ∈ p.2)) (allL 3) = 3 from by decide] at hsum
  clear hj hj'
  simp only at h3 hb1 hq ⊢
  generalize hsh : sharesOf false [([109, 49], [[98]])] (allL 3) = D at *
  simp only [vExtract, List.getElem?_cons_succ, List.getElem?_cons_zero]
  generalize hG1 : (⟨10, 5, false, 3, 1, 1, 0, 0, allL 3, [⟨[109, 49], [[98]], 0, true, false⟩], D⟩ : GG) = G1 at *
  have e1 : G1.goes 0 = G1 := goes_quiet hq (by rw [← hG1]; exact Int.le_refl 0)
  have ea : G1.at_ [109, 49] = some 0 := at_one (by rw [← hG1]) rfl
  have ef : G1.fenceE [109, 49] 1 = 0 := by unfold GG.fenceE; rw [ea, ← hG1]; rfl
  have eh : G1.heard [109, 49] 1 0 = (G1, 0) := by
    unfold GG.heard
    simp only
    rw [e1, if_pos ef]
    unfold GG.upd
    rw [ea, ← hG1]
    rfl
  have es : G1.sync [109, 49] 1 0 = ({ G1 with state := 4, since := 0, l := [⟨[109, 49], [[98]], 0, true, true⟩] }, ofD D [109, 49], 0) := by
    unfold GG.sync
    rw [eh]
    simp only [if_true]
    unfold GG.upd
    rw [ea, ← hG1]
    rfl
  have hs := sync12 h3 hb1 (by omega) [109, 49] 1 (now := 0) (by omega)
  refine hs.mono ?_
  rintro _ t4 ⟨h4, o', rfl, ho'⟩
  have hb2 := hb1.sync (id := [109, 49]) (gen := 1) (now := 0) (by omega) (by omega)
  have hq2 := quiet_sync (id := [109, 49]) (gen := 1) (n := 0) (by rw [← hG1]; show (1 : Int) ≤ 5; omega) (by rw [← hG1]; show (0 : Int) ≤ 10; omega) hq.st
  rw [es] at h4 ho' hb2 hq2 ⊢
  simp only at h4 ho' hb2 hq2 ⊢
  simp only [vExtract, List.getElem?_cons_succ, List.getElem?_cons_zero]
  rw [show (HV.lit (.string { data := #[109, 49] })) = strV [109, 49] from rfl]
  rw [show vLenT (Tryd.prog.underlying 34) t4 (rowV slC 2 o') = some (.lit (.int .i64 (((o'.getD []).length : Nat) : Int))) from len_rowV o' t4]
  rw [ho', hsum]
  simp only [eql_s, eql_n, eql_24, decide_true, hcond]
  rw [show decide ((((3 : Nat) : Nat) : Int) = 3) = true from rfl]
  simp only
  refine (state14 h4).mono ?_
  rintro _ t5 ⟨rfl, rfl⟩
  simp only [eql_n, decide_true]
  refine (beat16 h4 hb2 (by omega) [109, 49] 2 (now := 0) (by omega)).mono ?_
  rintro _ t6 ⟨h6, rfl⟩
  have e2 : ({ G1 with state := 4, since := 0, l := [⟨[109, 49], [[98]], 0, true, true⟩] } : GG).goes 0 = { G1 with state := 4, since := 0, l := [⟨[109, 49], [[98]], 0, true, true⟩] } := goes_quiet hq2 (by rw [← hG1]; exact Int.le_refl 0)
  have e3 : (({ G1 with state := 4, since := 0, l := [⟨[109, 49], [[98]], 0, true, true⟩] } : GG).heard [109, 49] 2 0).2 = 12 := by
    unfold GG.heard
    simp only
    rw [e2]
    have : ({ G1 with state := 4, since := 0, l := [⟨[109, 49], [[98]], 0, true, true⟩] } : GG).fenceE [109, 49] 2 = 12 := by
      unfold GG.fenceE
      rw [at_one (m := ⟨[109, 49], [[98]], 0, true, true⟩) rfl rfl, ← hG1]
      rfl
    rw [this]
    rfl
  rw [e3]
  simp only [eql_24, decide_true]
end
end Go.Proofs.YtkcgokkgefgcjaaDoor.AS
end
section
namespace Go.Proofs.YtkcgokkgefgcjaaDoor.AS
open Go.Proofs.YtkcgokkgefgcjaaDoor.H Go.Proofs.YtkcgokkgefgcjaaDoor.G0
set_option linter.unusedVariables false
set_option linter.unusedSimpArgs false
set_option maxRecDepth 100000
section
variable {G : GG}
theorem tick_quiet {al : List Top} {n : Int} (hq : Quiet G) (ha : G.all = al) (hn : n ≤ G.now) : G.tick al n = G := by
  unfold GG.tick
  have : ({ G with all := al } : GG) = G := by rw [← ha]
  rw [this]
  exact goes_quiet hq hn
/-- One more comes. -/
theorem join_more (hq : Quiet G) (hR : 1 ≤ G.rebalance) {al : List Top} (ha : G.all = al) {n : Int} (hn : n ≤ G.now) (hlen : G.l.length < 20) (hne : G.l ≠ []) {tp : List By} (htp : tp.length ≤ 30) : G.join [] tp al n =
    ({ G with given := G.given + 1, state := 2, since := if G.state = 2 then G.since else G.now, l := (if G.state = 2 then G.l else G.l.map fun m => { m with joined := false }) ++ [⟨G.nm [], tp, G.now, true, false⟩] }, G.nm [], 0, 14) := by
  unfold GG.join
  rw [tick_quiet hq ha hn]
  unfold GG.join1
  rw [if_neg (by omega), if_neg (by omega), if_neg (by simp)]
  have e2 : G.join2 [] = { G with given := G.given + 1, l := G.l ++ [⟨G.nm [], [], 0, false, false⟩] } := by
    unfold GG.join2
    rw [if_pos rfl]
  have ei : G.joinI [] = G.l.length := by unfold GG.joinI; rw [if_pos rfl]
  rw [e2, ei]
  have hset : ∀ (L : List GM) (x y : GM), (L ++ [x]).set L.length y = L ++ [y] := fun L x y => by simp
  have hget : ∀ (L : List GM) (x : GM), (L ++ [x]).getD L.length gm0 = x := fun L x => by simp [List.getD]
  have e3 : ({ G with given := G.given + 1, l := G.l ++ [⟨G.nm [], [], 0, false, false⟩] } : GG).join3 G.l.length (decide (([] : By) = [])) tp =
      { G with given := G.given + 1, state := 2, since := if G.state = 2 then G.since else G.now, l := (if G.state = 2 then G.l else G.l.map fun m => { m with joined := false }) ++ [⟨G.nm [], tp, G.now, true, false⟩] } := by
    unfold GG.join3
    simp only [decide_true, true_or, if_true]
    unfold GG.updAt
    simp only [hset, hget]
    have hf : ∀ H : GG, H.state = 2 → (H.l.all (·.joined) || H.over) = false → H.forms = H := fun H h1 h2 => by
      unfold GG.forms
      rw [if_neg (fun hh => by rw [h2] at hh; exact Bool.false_ne_true hh.2)]
    by_cases hs : G.state = 2
    · simp only [hs, if_true, hset, hget]
      have htwo := hq.two hs
      simp only [Bool.or_eq_true, not_or, Bool.not_eq_true] at htwo
      rw [hf]
      · rfl
      · rw [List.all_append, htwo.1]
        exact htwo.2
    · simp only [hs, if_false]
      unfold GG.prepares
      rw [if_neg (by simp)]
      simp only [GG.enter, List.map_append, List.map_cons, List.map_nil]
      have hset' : ∀ (y : GM) (x : GM), ((G.l.map fun m : GM => ({ m with joined := false } : GM)) ++ [x]).set G.l.length y = (G.l.map fun m : GM => ({ m with joined := false } : GM)) ++ [y] := fun y x => by
        have := hset (G.l.map fun m : GM => ({ m with joined := false } : GM)) x y
        rw [List.length_map] at this
        exact this
      have hget' : ∀ (x : GM), ((G.l.map fun m : GM => ({ m with joined := false } : GM)) ++ [x]).getD G.l.length gm0 = x := fun x => by
        have := hget (G.l.map fun m : GM => ({ m with joined := false } : GM)) x
        rw [List.length_map] at this
        exact this
      simp only [hset', hget']
      rw [hf]
      · rfl
      · rw [over0 (by exact hR) rfl, Bool.or_false, List.all_append, List.all_map]
        cases hl : G.l with
        | nil => exact absurd hl hne
        | cons m r => simp
  rw [e3]
  simp only [if_true]
def nmJ (j : Nat) : By := 109 :: decL (j + 1)
structure FullI (i : Nat) (G : GG) : Prop where
  q : Quiet G
  se : G.session = 1000
  rb : G.rebalance = 1000
  nw : G.now = 0
  all : 0 < i → G.all = allL 2
  gv : G.given = (min i 20 : Nat)
  ids : ids G = (List.range (min i 20)).map nmJ
  s1 : i = 1 → G.state = 3
  s2 : 2 ≤ i → G.state = 2
  un : 2 ≤ i → ∃ m ∈ G.l, m.joined = false ∧ m.id = nmJ 0
theorem nm_at {i : Nat} (h : G.given = (i : Int)) : G.nm [] = nmJ i := by
  unfold GG.nm nmJ
  rw [if_pos rfl, h]
  have : ((i : Int) + 1).toNat = i + 1 := by omega
  rw [this]
theorem FullI.len {i : Nat} (h : FullI i G) : G.l.length = min i 20 := by
  have := congrArg List.length h.ids
  unfold AS.ids at this
  rw [List.length_map, List.length_map, List.length_range] at this
  exact this
end
end Go.Proofs.YtkcgokkgefgcjaaDoor.AS
end
section
namespace Go.Proofs.YtkcgokkgefgcjaaDoor.AS
open Go.Proofs.YtkcgokkgefgcjaaDoor.H Go.Proofs.YtkcgokkgefgcjaaDoor.G0
set_option linter.unusedVariables false
set_option linter.unusedSimpArgs false
set_option maxRecDepth 100000
section
variable {G : GG}
theorem now_prepares (G : GG) : G.prepares.now = G.now := by unfold GG.prepares; split <;> rfl
theorem now_forms (G : GG) : G.forms.now = G.now := by
  unfold GG.forms GG.forms1
  simp only
  repeat' split
  all_goals rfl
theorem now_goes (G : GG) (n : Int) : (G.goes n).now = max G.now n := by
  have h1 : ∀ G : GG, G.goes1.now = G.now := fun G => by
    unfold GG.goes1
    simp only
    rw [now_forms]
    have e : ∀ (c : Prop) [Decidable c] (A B : GG), A.now = G.now → B.now = G.now → (if c then A else B).now = G.now := fun c _ A B ha hb => by
      split
      · exact ha
      · exact hb
    have e3 : ∀ (c : Prop) [Decidable c], (if c then (G.outs fun m => decide (G.session < G.now - m.heard)).prepares else G.outs fun m => decide (G.session < G.now - m.heard)).now = G.now := fun c _ => e _ _ _ (by rw [now_prepares]; rfl) rfl
    exact e _ _ _ (e3 _) (e3 _)
  unfold GG.goes GG.goes2
  split
  · rw [now_prepares]; exact h1 { G with now := max G.now n }
  · exact h1 { G with now := max G.now n }
theorem now_tick (G : GG) (al : List Top) (n : Int) : (G.tick al n).now = max G.now n := now_goes _ n
theorem now_upd (G : GG) (id : By) (f : GM → GM) : (G.upd id f).now = G.now := by unfold GG.upd; split <;> rfl
theorem now_heard (G : GG) (id : By) (gen n : Int) : (G.heard id gen n).1.now = max G.now n := by
  unfold GG.heard
  simp only
  split
  · rw [now_upd, now_goes]
  · exact now_goes G n
theorem now_sync (G : GG) (id : By) (gen n : Int) : (G.sync id gen n).1.now = max G.now n := by
  unfold GG.sync
  split
  · simp only
    split
    · show (GG.upd _ _ _).now = _; rw [now_upd, now_heard]
    · rw [now_upd, now_heard]
  · exact now_heard G id gen n
theorem now_join (G : GG) (id : By) (tp : List By) (al : List Top) (n : Int) : (G.join id tp al n).1.now = max G.now n := by
  rw [← now_tick G al n]
  unfold GG.join
  generalize G.tick al n = G1
  unfold GG.join1
  repeat' split
  · rfl
  · rfl
  · rfl
  · have e2 := (join2_gen G1 id).2.2.2.2.2.2.1
    rw [← e2]
    unfold GG.join3
    simp only
    split
    · rw [now_forms]
      show (if _ then _ else _ : GG).now = _
      split
      · rfl
      · rw [now_prepares]; rfl
    · rfl
/-- What holds behind each step. -/
structure Run (se rb : Int) (i : Nat) (n : Int) (G : GG) : Prop where
  q : Quiet G
  se : G.session = se
  rb : G.rebalance = rb
  nw : G.now = n
  gv : G.given ≤ i
  nm : Nm G
  bd : Bd (3 * i) G
theorem at_none (G : GG) (id : By) : G.at_ id = none ↔ id ∉ ids G := by
  unfold GG.at_ ids
  rw [List.findIdx?_eq_none_iff]
  constructor
  · intro h hm
    obtain ⟨m, hm, e⟩ := List.mem_map.1 hm
    have := h m hm
    simp [e] at this
  · intro h m hm
    simp only [decide_eq_false_iff_not]
    intro e
    exact h (List.mem_map.2 ⟨m, hm, e⟩)
theorem fenceE_eq (G : GG) (id : By) (gen : Int) : G.fenceE id gen = if id ∈ ids G then (if gen = G.gen then 0 else 12) else 13 := by
  unfold GG.fenceE
  cases h : G.at_ id with
  | none => rw [if_neg ((at_none G id).1 h)]
  | some i =>
    have hm : id ∈ ids G := by
      by_cases hm : id ∈ ids G
      · exact hm
      · rw [(at_none G id).2 hm] at h; cases h
    rw [if_pos hm]
end
end Go.Proofs.YtkcgokkgefgcjaaDoor.AS
end
section
namespace Go.Proofs.YtkcgokkgefgcjaaDoor.AS
open Go.Proofs.YtkcgokkgefgcjaaDoor.H Go.Proofs.YtkcgokkgefgcjaaDoor.G0
set_option linter.unusedVariables false
set_option linter.unusedSimpArgs false
set_option maxRecDepth 100000
section
variable {G : GG}
def Sr (G G' : GG) : Prop := G'.all = G.all ∧ (G'.shares = G.shares ∨ ∃ rd l, G'.shares = sharesOf rd l G.all)
theorem Sr.refl (G : GG) : Sr G G := ⟨rfl, .inl rfl⟩
theorem Sr.trans {G1 G2 G3 : GG} (h : Sr G1 G2) (k : Sr G2 G3) : Sr G1 G3 := by
  refine ⟨k.1.trans h.1, ?_⟩
  rcases k.2 with e | ⟨rd, l, e⟩
  · rw [e]; exact h.2
  · exact .inr ⟨rd, l, by rw [e, h.1]⟩
theorem Sr.ite {c : Prop} [Decidable c] {G G1 G2 : GG} (h1 : Sr G G1) (h2 : Sr G G2) : Sr G (if c then G1 else G2) := by
  split
  · exact h1
  · exact h2
/-- Whose topics they are. -/
def SA (al : List Top) (G : GG) : Prop := (G.all = al ∨ G.all = []) ∧ (G.shares = [] ∨ ∃ rd l a, (a = al ∨ a = []) ∧ G.shares = sharesOf rd l a)
theorem SA.apart {al : List Top} (h : SA al G) {a c : By} {x : Slot} (ha : x ∈ ofD G.shares a) (hc : x ∈ ofD G.shares c) : a = c := by
  rcases h.2 with e | ⟨rd, l, al', -, e⟩
  · rw [e] at ha; cases ha
  · rw [e] at ha hc; exact resD_apart ha hc
theorem parts_le (w : By → Bool) : ∀ tl : List Top, partsOf w tl ≤ (tl.map fun t => t.parts.toNat).sum
  | [] => Nat.le_refl _
  | t :: tl => by
    have := parts_le w tl
    unfold partsOf at this ⊢
    rw [List.map_cons, List.map_cons, List.sum_cons, List.sum_cons]
    split <;> omega
theorem ofD_le (rd : Bool) (l : List (By × List By)) (al : List Top) (id : By) : (ofD (sharesOf rd l al) id).length ≤ (al.map fun t => t.parts.toNat).sum := by
  unfold sharesOf
  by_cases hok : okA (l.map fun p => (⟨p.1, some p.2⟩ : Mem)) al
  case neg =>
    unfold resD
    rw [if_neg hok]
    exact Nat.zero_le _
  obtain ⟨rg, hrg, hg⟩ : ∃ rg : List Mem → List Top → List (Nat × Slot), resD (if rd then roundA else rangeA) (l.map fun p => (⟨p.1, some p.2⟩ : Mem)) al = shD rg (l.map fun p => (⟨p.1, some p.2⟩ : Mem)) al ∧ Good (isM (l.map fun p => (⟨p.1, some p.2⟩ : Mem))) (isT al) (rg (isM (l.map fun p => (⟨p.1, some p.2⟩ : Mem))) (isT al)) := by
    unfold resD
    cases rd with
    | true => exact ⟨roundA, by rw [if_pos hok]; simp, good_round _ _⟩
    | false => exact ⟨rangeA, by rw [if_pos hok]; simp, good_range _ _⟩
  rw [hrg]
  generalize (l.map fun p => (⟨p.1, some p.2⟩ : Mem)) = ml at *
  have hlen : (rg (isM ml) (isT al)).length ≤ (al.map fun t => t.parts.toNat).sum := by
    have e2 := congrArg List.length hg.slots
    rw [List.length_map] at e2
    rw [e2, slots_lenW, ← sum_perm ((isort_perm Top.name al).map fun t => t.parts.toNat)]
    exact parts_le _ _
  by_cases hf : ∃ i, i < ml.length ∧ id = ((isM ml).getD i m0).id
  · obtain ⟨i, hi, rfl⟩ := hf
    rw [ofD_shD hok.2.1 hi]
    refine Nat.le_trans ?_ hlen
    unfold shOf
    rw [List.length_map]
    exact List.length_filter_le _ _
  · unfold ofD
    rw [List.find?_eq_none.2 fun d hd => by
      obtain ⟨i, hi, rfl⟩ := List.mem_iff_getElem.1 hd
      have hi' : i < ml.length := by rw [shD_len] at hi; exact hi
      have := shD_get (rg := rg) (l := ml) (tl := al) hi'
      rw [getD_get _ _ hi] at this
      rw [this]
      simp only [beq_iff_eq]
      intro e
      exact hf ⟨i, hi', e.symm⟩]
    exact Nat.zero_le _
theorem SA.le {k : Int} (h : SA (allL k) G) (id : By) : (ofD G.shares id).length ≤ 6 := by
  rcases h.2 with e | ⟨rd, l, al', hal, e⟩
  · rw [e]; exact Nat.zero_le _
  · rw [e]
    refine Nat.le_trans (ofD_le rd l al' id) ?_
    rcases hal with rfl | rfl
    · show (((k % 5).toNat : Nat) : Int).toNat + (2 + 0) ≤ 6
      omega
    · exact Nat.zero_le _
theorem Mv.len {G' : GG} (h : Mv G G') : G'.l.length ≤ G.l.length := by
  have := h.ids.length_le
  unfold AS.ids at this
  rw [List.length_map, List.length_map] at this
  exact this
end
end Go.Proofs.YtkcgokkgefgcjaaDoor.AS
end
section
namespace Go.Proofs.YtkcgokkgefgcjaaDoor.AS
open Go.Proofs.YtkcgokkgefgcjaaDoor.H Go.Proofs.YtkcgokkgefgcjaaDoor.G0
set_option linter.unusedVariables false
set_option linter.unusedSimpArgs false
set_option maxRecDepth 100000
section
variable {G : GG}
def unj (m : GM) : GM := { m with joined := false }
def uns (m : GM) : GM := { m with synced := false }
/-- The members, when the i-th has come again. -/
def l6 (G : GG) (i : Nat) (tp : List By) : List GM := (if G.state = 2 then G.l else G.l.map unj).set i ⟨(G.l.getD i gm0).id, tp, G.now, true, (G.l.getD i gm0).synced⟩
theorem l6_len (G : GG) (i : Nat) (tp : List By) : (l6 G i tp).length = G.l.length := by
  unfold l6
  rw [List.length_set]
  split
  · rfl
  · rw [List.length_map]
theorem l6_at (G : GG) (i : Nat) (tp : List By) {j : Nat} (hj : j < G.l.length) : (l6 G i tp).getD j gm0 = if j = i then ⟨(G.l.getD i gm0).id, tp, G.now, true, (G.l.getD i gm0).synced⟩ else if G.state = 2 then G.l.getD j gm0 else unj (G.l.getD j gm0) := by
  rw [getD_get _ _ (by rw [l6_len]; exact hj)]
  unfold l6
  rw [List.getElem_set]
  by_cases e : i = j
  · rw [if_pos e, if_pos e.symm]
  · rw [if_neg e, if_neg (Ne.symm e)]
    by_cases hs : G.state = 2
    · simp only [hs, if_true]
      rw [getD_get _ _ hj]
    · simp only [hs, if_false]
      rw [List.getElem_map, getD_get _ _ hj]
theorem updAt_at (G : GG) (i : Nat) (f : GM → GM) {j : Nat} (hj : j < G.l.length) : ((G.updAt i f).l.getD j gm0) = if j = i then f (G.l.getD i gm0) else G.l.getD j gm0 := by
  unfold GG.updAt
  simp only
  rw [getD_get _ _ (by rw [List.length_set]; exact hj), List.getElem_set]
  by_cases e : i = j
  · rw [if_pos e, if_pos e.symm]
  · rw [if_neg e, if_neg (Ne.symm e), getD_get _ _ hj]
theorem join3_same {i : Nat} {tp : List By} (hs : G.state ≠ 2) (hi : i < G.l.length) (ht : (G.l.getD i gm0).tp = tp) : G.join3 i false tp = G.updAt i fun m => { m with heard := G.now } := by
  unfold GG.join3
  simp only
  rw [if_neg]
  rintro (h | h | h)
  · cases h
  · exact hs h
  · refine h ?_
    unfold GG.updAt
    simp only
    rw [getD_get _ _ (by rw [List.length_set]; exact hi), List.getElem_set_self]
    exact ht
theorem join3_eq {i : Nat} {tp : List By} (hq : Quiet G) (hR : 1 ≤ G.rebalance) (hi : i < G.l.length) (hc : ¬ (G.state ≠ 2 ∧ (G.l.getD i gm0).tp = tp)) :
    G.join3 i false tp = if ((l6 G i tp).all (·.joined)) = true then { G with state := 3, since := G.now, gen := G.gen + 1, l := (l6 G i tp).map uns, shares := sharesOf G.round ((l6 G i tp).map fun m => (m.id, m.tp)) G.all } else { G with state := 2, since := if G.state = 2 then G.since else G.now, l := l6 G i tp } := by
  have hne : l6 G i tp ≠ [] := fun e => by
    have := congrArg List.length e
    rw [l6_len] at this
    simp only [List.length_nil] at this
    omega
  -- what is before it is formed
  have key : (G.join3 i false tp) = ({ G with state := 2, since := if G.state = 2 then G.since else G.now, l := l6 G i tp } : GG).forms := by
    unfold GG.join3
    simp only
    rw [if_pos]
    · congr 1
      have hget : ∀ (L : List GM) (x : GM), i < L.length → (L.set i x).getD i gm0 = x := fun L x h => by rw [getD_get _ _ (by rw [List.length_set]; exact h), List.getElem_set_self]
      by_cases hs : G.state = 2
      · unfold GG.updAt l6
        simp only [hs, if_true, hget _ _ hi, List.set_set]
      · have hpre : ∀ H : GG, H.l ≠ [] → H.prepares = { H with state := 2, since := H.now, l := H.l.map unj } := fun H hH => by
          unfold GG.prepares
          rw [if_neg hH]
          rfl
        have hl4 : ((G.updAt i fun m => { m with heard := G.now }).updAt i fun m => { m with tp := tp }).l ≠ [] := fun e => by
          have := congrArg List.length e
          rw [updAt_len, updAt_len] at this
          simp only [List.length_nil] at this
          omega
        rw [if_neg (show ¬ ((G.updAt i fun m => { m with heard := G.now }).updAt i fun m => { m with tp := tp }).state = 2 from hs), hpre _ hl4]
        unfold GG.updAt l6
        simp only [hs, if_false, hget _ _ hi, List.set_set, List.map_set]
        rw [hget _ _ (by rw [List.length_map]; exact hi)]
        rfl
    · by_cases hs : G.state = 2
      · exact .inr (.inl hs)
      · refine .inr (.inr fun e => hc ⟨hs, ?_⟩)
        rw [updAt_at G i _ hi, if_pos rfl] at e
        exact e
  rw [key]
  have hov : ({ G with state := 2, since := if G.state = 2 then G.since else G.now, l := l6 G i tp } : GG).over = false := by
    by_cases hs : G.state = 2
    · have := hq.two hs
      simp only [Bool.or_eq_true, not_or, Bool.not_eq_true] at this
      rw [← this.2]
      unfold GG.over
      simp only [hs, if_true]
    · exact over0 hR (by simp only [hs, if_false])
  unfold GG.forms
  rw [hov, Bool.or_false]
  simp only [true_and]
  cases ha : (l6 G i tp).all (·.joined) with
  | false =>
    rw [if_neg Bool.false_ne_true, if_neg Bool.false_ne_true]
  | true =>
    rw [if_pos rfl, if_pos rfl]
    unfold GG.forms1 GG.outs
    simp only
    have hf : (l6 G i tp).filter (fun m => !!m.joined) = l6 G i tp := List.filter_eq_self.2 fun m hm => by
      have := List.all_eq_true.1 ha m hm
      rw [this]; rfl
    rw [hf, if_neg hne]
    rfl
theorem at_mem (hn : (ids G).Nodup) {k : Nat} (hk : k < G.l.length) : G.at_ (G.l.getD k gm0).id = some k := by
  unfold GG.at_
  rw [List.findIdx?_eq_some_iff_getElem]
  refine ⟨hk, by rw [getD_get _ _ hk]; simp, fun j hj => ?_⟩
  simp only [decide_eq_true_eq]
  intro e
  unfold ids List.Nodup at hn
  rw [List.pairwise_map, List.pairwise_iff_getElem] at hn
  rw [getD_get _ _ hk] at e
  exact hn j k (by omega) hk hj e
theorem join_known {k : Nat} {tp : List By} {al : List Top} {n : Int} (hq : Quiet G) (ha : G.all = al) (hn : n ≤ G.now) (hnm : Nm G) (htp : tp.length ≤ 30) (hk : k < G.l.length) : (G.join (G.l.getD k gm0).id tp al n).1 = G.join3 k false tp := by
  have hid : (G.l.getD k gm0).id ≠ [] := hnm.ne (List.mem_map.2 ⟨_, getD_memD gm0 hk, rfl⟩)
  have hat := at_mem hnm.nd hk
  unfold GG.join
  rw [tick_quiet hq ha hn]
  unfold GG.join1
  rw [if_neg (by omega), if_neg (fun h => hid h.1), if_neg (fun h => by rw [hat] at h; cases h.2)]
  have e1 : G.join2 (G.l.getD k gm0).id = G := by unfold GG.join2; rw [if_neg hid]
  have e2 : G.joinI (G.l.getD k gm0).id = k := by unfold GG.joinI; rw [if_neg hid, hat]; rfl
  rw [e1, e2, decide_eq_false hid]
/-- Who has come again, of members that all have the same topics. -/
structure TI (tp : List By) (al : List Top) (g0 g1 : Int) (M : List By) (k : Nat) (G : GG) : Prop where
  q : Quiet G
  al : G.all = al
  nm : Nm G
  ids : ids G = M
  tps : ∀ j, j < G.l.length → (G.l.getD j gm0).tp = tp
  hd : ∀ j, j < k → (G.l.getD j gm0).heard = G.now
  st : (G.state = 2 ∧ G.gen = g0 ∧ g1 = g0 + 1 ∧ ∀ j, j < k → (G.l.getD j gm0).joined = true) ∨ ((G.state = 3 ∨ G.state = 4) ∧ G.gen = g1)
theorem ids_at (G : GG) {j : Nat} (hj : j < G.l.length) : (ids G).getD j [] = (G.l.getD j gm0).id := by
  unfold ids
  rw [getD_get _ _ (by rw [List.length_map]; exact hj), getD_get _ _ hj, List.getElem_map]
theorem ids_len (G : GG) : (ids G).length = G.l.length := by unfold ids; rw [List.length_map]
theorem ids_ext {G G' : GG} (hl : G'.l.length = G.l.length) (h : ∀ j, j < G.l.length → (G'.l.getD j gm0).id = (G.l.getD j gm0).id) : ids G' = ids G := by
  refine List.ext_getElem (by rw [ids_len, ids_len, hl]) fun j h1 h2 => ?_
  rw [ids_len] at h2
  have := h j h2
  rw [← ids_at G' (by omega), ← ids_at G h2, getD_get _ _ (by rw [ids_len]; omega), getD_get _ _ (by rw [ids_len]; exact h2)] at this
  exact this
theorem map_at (f : GM → GM) (L : List GM) {j : Nat} (hj : j < L.length) : (L.map f).getD j gm0 = f (L.getD j gm0) := by
  rw [getD_get _ _ (by rw [List.length_map]; exact hj), getD_get _ _ hj, List.getElem_map]
theorem ti_step {tp : List By} {al : List Top} {g0 g1 : Int} {M : List By} {k : Nat} (h : TI tp al g0 g1 M k G) (hR : 1 ≤ G.rebalance) (hS : 0 ≤ G.session) (htp : tp.length ≤ 30) (hk : k < M.length) : TI tp al g0 g1 M (k + 1) (G.join (M.getD k []) tp al G.now).1 ∧ (G.join (M.getD k []) tp al G.now).1.now = G.now := by
  have hlen : M.length = G.l.length := by rw [← h.ids, ids_len]
  have hk' : k < G.l.length := by omega
  have hid : M.getD k [] = (G.l.getD k gm0).id := by rw [← h.ids, ids_at G hk']
  have hq' := quiet_join (id := M.getD k []) (tp := tp) (al := al) (n := G.now) hR hS h.q.st
  have hnm' := (mj_join G (M.getD k []) tp al G.now).nm h.nm
  have hnow : (G.join (M.getD k []) tp al G.now).1.now = G.now := by rw [now_join]; exact Int.max_self _
  refine ⟨?_, hnow⟩
  rw [hid] at hq' hnm' hnow ⊢
  rw [join_known h.q h.al (Int.le_refl _) h.nm htp hk'] at hq' hnm' hnow ⊢
  by_cases hc : G.state ≠ 2 ∧ (G.l.getD k gm0).tp = tp
  · rw [join3_same hc.1 hk' hc.2] at hq' hnm' hnow ⊢
    have hst : (G.state = 3 ∨ G.state = 4) ∧ G.gen = g1 := by
      rcases h.st with h1 | h1
      · exact absurd h1.1 hc.1
      · exact h1
    refine ⟨hq', h.al, hnm', ?_, fun j hj => ?_, fun j hj => ?_, .inr hst⟩
    · rw [← h.ids]
      exact updAt_ids G k _ (fun m => rfl) hk'
    · rw [updAt_len] at hj
      rw [updAt_at G k _ hj]
      split
      · exact h.tps k hk'
      · exact h.tps j hj
    · rw [updAt_at G k _ (by omega)]
      split
      · rfl
      · exact h.hd j (by omega)
  · have he := join3_eq (tp := tp) h.q hR hk' hc
    have hs2 : G.state = 2 := by
      by_cases hs : G.state = 2
      · exact hs
      · exact absurd ⟨hs, h.tps k hk'⟩ hc
    obtain ⟨-, j1, j2, j3⟩ : G.state = 2 ∧ G.gen = g0 ∧ g1 = g0 + 1 ∧ ∀ j, j < k → (G.l.getD j gm0).joined = true := by
      rcases h.st with h1 | ⟨h1, -⟩
      · exact h1
      · omega
    have hat := fun j (hj : j < G.l.length) => l6_at G k tp hj
    simp only [hs2, if_true] at hat
    have hlen6 := l6_len G k tp
    by_cases ha : ((l6 G k tp).all (·.joined)) = true
    · rw [if_pos ha] at he
      rw [he] at hq' hnm' hnow ⊢
      have hm := fun j (hj : j < G.l.length) => map_at uns (l6 G k tp) (j := j) (by omega)
      refine ⟨hq', h.al, hnm', ?_, fun j hj => ?_, fun j hj => ?_, .inr ⟨.inl rfl, by show G.gen + 1 = g1; omega⟩⟩
      · rw [← h.ids]
        refine ids_ext (by show ((l6 G k tp).map uns).length = _; rw [List.length_map, hlen6]) fun j hj => ?_
        show (((l6 G k tp).map uns).getD j gm0).id = _
        rw [hm j hj, hat j hj]
        split
        · rename_i e; rw [e]; rfl
        · rfl
      · have hj' : j < G.l.length := by
          have : j < ((l6 G k tp).map uns).length := hj
          rw [List.length_map, hlen6] at this
          exact this
        show (((l6 G k tp).map uns).getD j gm0).tp = tp
        rw [hm j hj', hat j hj']
        split
        · rfl
        · exact h.tps j hj'
      · show (((l6 G k tp).map uns).getD j gm0).heard = G.now
        rw [hm j (by omega), hat j (by omega)]
        split
        · rfl
        · exact h.hd j (by omega)
    · rw [if_neg ha] at he
      rw [he] at hq' hnm' hnow ⊢
      refine ⟨hq', h.al, hnm', ?_, fun j hj => ?_, fun j hj => ?_, .inl ⟨rfl, j1, j2, fun j hj => ?_⟩⟩
      · rw [← h.ids]
        refine ids_ext hlen6 fun j hj => ?_
        show ((l6 G k tp).getD j gm0).id = _
        rw [hat j hj]
        split
        · rename_i e; rw [e]
        · rfl
      · have hj' : j < G.l.length := by
          have : j < (l6 G k tp).length := hj
          omega
        show ((l6 G k tp).getD j gm0).tp = tp
        rw [hat j hj']
        split
        · rfl
        · exact h.tps j hj'
      · show ((l6 G k tp).getD j gm0).heard = G.now
        rw [hat j (by omega)]
        split
        · rfl
        · exact h.hd j (by omega)
      · show ((l6 G k tp).getD j gm0).joined = true
        rw [hat j (by omega)]
        split
        · rfl
        · exact j3 j (by omega)
theorem all_at {L : List GM} {p : GM → Bool} (h : ∀ j, j < L.length → p (L.getD j gm0) = true) : L.all p = true := by
  rw [List.all_eq_true]
  intro m hm
  obtain ⟨j, hj, rfl⟩ := List.mem_iff_getElem.1 hm
  have := h j hj
  rw [getD_get _ _ hj] at this
  exact this
/-- All have come again: it has formed. -/
theorem ti_end {tp : List By} {al : List Top} {g0 g1 : Int} {M : List By} (h : TI tp al g0 g1 M M.length G) : (G.state = 3 ∨ G.state = 4) ∧ G.gen = g1 := by
  rcases h.st with ⟨h1, -, -, h2⟩ | h1
  · exfalso
    have hlen : M.length = G.l.length := by rw [← h.ids, ids_len]
    refine h.q.two h1 ?_
    rw [all_at (fun j hj => h2 j (by omega))]
    rfl
  · exact h1
end
end Go.Proofs.YtkcgokkgefgcjaaDoor.AS
end
section
namespace Go.Proofs.YtkcgokkgefgcjaaDoor.AS
open Go.Proofs.YtkcgokkgefgcjaaDoor.H Go.Proofs.YtkcgokkgefgcjaaDoor.G0
set_option linter.unusedVariables false
set_option linter.unusedSimpArgs false
set_option maxRecDepth 100000
section
variable {G : GG}
theorem upd_at {id : By} {k : Nat} (h : G.at_ id = some k) (f : GM → GM) : G.upd id f = G.updAt k f := by
  unfold GG.upd
  rw [h]
  rfl
structure SI (D : Prop) (tp : List By) (al : List Top) (g1 : Int) (M : List By) (k : Nat) (G : GG) : Prop where
  q : Quiet G
  al : G.all = al
  nm : Nm G
  ids : ids G = M
  tps : ∀ j, j < G.l.length → (G.l.getD j gm0).tp = tp
  hd : D → ∀ j, j < G.l.length → (G.l.getD j gm0).heard = G.now
  gen : G.gen = g1
  st : G.state = 4 ∨ (G.state = 3 ∧ k < M.length ∧ ∀ j, j < k → (G.l.getD j gm0).synced = true)
theorem si_start {tp : List By} {al : List Top} {g0 g1 : Int} {M : List By} (h : TI tp al g0 g1 M M.length G) (hM : 0 < M.length) : SI True tp al g1 M 0 G := by
  have hlen : M.length = G.l.length := by rw [← h.ids, ids_len]
  obtain ⟨e1, e2⟩ := ti_end h
  refine ⟨h.q, h.al, h.nm, h.ids, h.tps, fun _ j hj => h.hd j (by omega), e2, ?_⟩
  rcases e1 with e | e
  · exact .inr ⟨e, hM, fun j hj => by omega⟩
  · exact .inl e
theorem si_end {D : Prop} {tp : List By} {al : List Top} {g1 : Int} {M : List By} (h : SI D tp al g1 M M.length G) : G.state = 4 := by
  rcases h.st with e | ⟨-, e, -⟩
  · exact e
  · omega
theorem si_step {D : Prop} {tp : List By} {al : List Top} {g1 : Int} {M : List By} {k : Nat} (h : SI D tp al g1 M k G) (hR : 1 ≤ G.rebalance) (hS : 0 ≤ G.session) (hk : k < M.length) :
    SI D tp al g1 M (k + 1) (G.sync (M.getD k []) g1 G.now).1 ∧ (G.sync (M.getD k []) g1 G.now).2.2 = 0 ∧ (G.sync (M.getD k []) g1 G.now).2.1 = ofD G.shares (M.getD k []) ∧ (G.sync (M.getD k []) g1 G.now).1.shares = G.shares ∧ (G.sync (M.getD k []) g1 G.now).1.now = G.now := by
  have hlen : M.length = G.l.length := by rw [← h.ids, ids_len]
  have hk' : k < G.l.length := by omega
  have hid : M.getD k [] = (G.l.getD k gm0).id := by rw [← h.ids, ids_at G hk']
  have hq' := quiet_sync (id := M.getD k []) (gen := g1) (n := G.now) hR hS h.q.st
  have hnm' := h.nm.mv (mv_sync G (M.getD k []) g1 G.now)
  have hnow : (G.sync (M.getD k []) g1 G.now).1.now = G.now := by rw [now_sync]; exact Int.max_self _
  have hs2 : G.state ≠ 2 := by rcases h.st with e | ⟨e, -⟩ <;> omega
  rw [hid] at hq' hnm' hnow ⊢
  have hat := at_mem h.nm.nd hk'
  have hgo : G.goes G.now = G := goes_quiet h.q (Int.le_refl _)
  have hf : G.fenceE (G.l.getD k gm0).id g1 = 0 := by unfold GG.fenceE; rw [hat]; simp only; rw [if_pos h.gen.symm]
  have hh : G.heard (G.l.getD k gm0).id g1 G.now = (G.updAt k fun m => { m with heard := G.now }, 0) := by
    unfold GG.heard
    simp only
    rw [hgo, if_pos hf, if_neg hs2, upd_at hat]
  have hat2 : (G.updAt k fun m => { m with heard := G.now }).at_ (G.l.getD k gm0).id = some k := by
    rw [at_ids (updAt_ids G k (fun m => { m with heard := G.now }) (fun m => rfl) hk')]
    exact hat
  have hs : G.sync (G.l.getD k gm0).id g1 G.now = (if G.state = 3 ∧ ((G.updAt k fun m => { m with heard := G.now, synced := true }).l.all (·.synced)) = true then (G.updAt k fun m => { m with heard := G.now, synced := true }).enter 4 else (G.updAt k fun m => { m with heard := G.now, synced := true }), ofD G.shares (G.l.getD k gm0).id, 0) := by
    unfold GG.sync
    rw [hh]
    simp only [if_true]
    rw [upd_at hat2, updAt_two G k _ _ hk']
    rfl
  rw [hs] at hq' hnm' hnow ⊢
  have hl := fun j (hj : j < G.l.length) => updAt_at G k (fun m => { m with heard := G.now, synced := true }) hj
  have hll : (G.updAt k fun m => { m with heard := G.now, synced := true }).l.length = G.l.length := updAt_len _ _ _
  have hids : ids (G.updAt k fun m => { m with heard := G.now, synced := true }) = M := by rw [updAt_ids G k (fun m => { m with heard := G.now, synced := true }) (fun m => rfl) hk', h.ids]
  have htps : ∀ j, j < G.l.length → ((G.updAt k fun m => { m with heard := G.now, synced := true }).l.getD j gm0).tp = tp := fun j hj => by
    rw [hl j hj]; split
    · exact h.tps k hk'
    · exact h.tps j hj
  have hhd : D → ∀ j, j < G.l.length → ((G.updAt k fun m => { m with heard := G.now, synced := true }).l.getD j gm0).heard = G.now := fun hD j hj => by
    rw [hl j hj]; split
    · rfl
    · exact h.hd hD j hj
  have hall : (G.updAt k fun m => { m with heard := G.now, synced := true }).all = G.all := rfl
  have hgen : (G.updAt k fun m => { m with heard := G.now, synced := true }).gen = G.gen := rfl
  have hst : (G.updAt k fun m => { m with heard := G.now, synced := true }).state = G.state := rfl
  have hsh : (G.updAt k fun m => { m with heard := G.now, synced := true }).shares = G.shares := rfl
  have hnw : (G.updAt k fun m => { m with heard := G.now, synced := true }).now = G.now := rfl
  have hsy : ∀ j, j < G.l.length → j = k ∨ (G.l.getD j gm0).synced = true → ((G.updAt k fun m => { m with heard := G.now, synced := true }).l.getD j gm0).synced = true := fun j hj hj2 => by
    rw [hl j hj]
    split
    · rfl
    · rename_i e
      rcases hj2 with e' | e'
      · exact absurd e' e
      · exact e'
  generalize (G.updAt k fun m => { m with heard := G.now, synced := true }) = G2 at *
  simp only at hq' hnm' hnow ⊢
  by_cases hc : G.state = 3 ∧ (G2.l.all (·.synced)) = true
  · rw [if_pos hc] at hq' hnm' hnow ⊢
    exact ⟨⟨hq', hall.trans h.al, hnm', hids, fun j hj => htps j (by rw [← hll]; exact hj), fun hD j hj => (hhd hD j (by rw [← hll]; exact hj)).trans hnw.symm, hgen.trans h.gen, .inl rfl⟩, trivial, trivial, hsh, hnow⟩
  · rw [if_neg hc] at hq' hnm' hnow ⊢
    refine ⟨⟨hq', hall.trans h.al, hnm', hids, fun j hj => htps j (by rw [← hll]; exact hj), fun hD j hj => (hhd hD j (by rw [← hll]; exact hj)).trans hnw.symm, hgen.trans h.gen, ?_⟩, trivial, trivial, hsh, hnow⟩
    rcases h.st with e | ⟨e, -, e2⟩
    · exact .inl (hst.trans e)
    · have hsy' : ∀ j, j < k + 1 → (G2.l.getD j gm0).synced = true := fun j hj => hsy j (by omega) (by
        by_cases e' : j = k
        · exact .inl e'
        · exact .inr (e2 j (by omega)))
      refine .inr ⟨hst.trans e, ?_, hsy'⟩
      by_cases hlast : k + 1 < M.length
      · exact hlast
      · exfalso
        exact hc ⟨e, all_at fun j hj => hsy' j (by omega)⟩
def Ow (al : List Top) (G : GG) : Prop := (G.state = 3 ∨ G.state = 4) → G.shares = sharesOf G.round (G.l.map fun m => (m.id, m.tp)) al
theorem ow_vac {al : List Top} (h : G.state = 1 ∨ G.state = 2) : Ow al G := fun e => by omega
theorem st_prep (G : GG) : G.prepares.state = 1 ∨ G.prepares.state = 2 := by
  unfold GG.prepares
  split
  · exact .inl rfl
  · exact .inr rfl
theorem ow_forms {al : List Top} (ha : G.all = al) (h : Ow al G) : Ow al G.forms := by
  unfold GG.forms GG.forms1
  simp only
  repeat' split
  · exact ow_vac (.inl rfl)
  · intro _
    show sharesOf _ _ (G.outs fun m => !m.joined).all = sharesOf _ _ al
    rw [show (G.outs fun m => !m.joined).all = al from ha, List.map_map]
    rfl
  · exact h
theorem ow_goes {al : List Top} (ha : G.all = al) (hst : St G) (h : Ow al G) (n : Int) : Ow al (G.goes n) := by
  have key : ∀ H : GG, H.all = al → St H → Ow al H → Ow al H.goes1.goes2 := by
    intro H ha hst h
    have h1 : Ow al H.goes1 := by
      unfold GG.goes1
      simp only
      generalize hg2 : (H.outs fun m => decide (H.session < H.now - m.heard)) = G2 at *
      have ha2 : G2.all = al := by rw [← hg2]; exact ha
      have h2 : (H.any fun m => decide (H.session < H.now - m.heard)) = false → Ow al G2 := fun e => by rw [← hg2, outs_none e]; exact h
      generalize (H.any fun m => decide (H.session < H.now - m.heard)) = an at *
      obtain ⟨G3, hG3⟩ : ∃ G3, (if (an && !decide (G2.state = 2)) = true then G2.prepares else G2) = G3 := ⟨_, rfl⟩
      rw [hG3]
      have h3 : Ow al G3 ∧ G3.all = al := by
        rw [← hG3]
        split
        · exact ⟨ow_vac (st_prep _), by rw [prepares_all]; exact ha2⟩
        · rename_i hc
          refine ⟨?_, ha2⟩
          cases han : an with
          | false => exact h2 han
          | true => rw [han] at hc; exact ow_vac (.inr (by simpa using hc))
      refine ow_forms ?_ ?_
      · split
        · exact h3.2
        · exact h3.2
      · split
        · exact ow_vac (.inl rfl)
        · exact h3.1
    unfold GG.goes2
    split
    · exact ow_vac (st_prep _)
    · exact h1
  exact key { G with now := max G.now n } ha ⟨hst.one, hst.rng⟩ h
theorem pairs_upd (G : GG) (id : By) (f : GM → GM) (hf : ∀ m, (f m).id = m.id ∧ (f m).tp = m.tp) : (G.upd id f).l.map (fun m => (m.id, m.tp)) = G.l.map fun m => (m.id, m.tp) := by
  unfold GG.upd
  cases hi : G.at_ id with
  | none => rfl
  | some i =>
    have hi' : i < G.l.length := (List.findIdx?_eq_some_iff_getElem.1 hi).1
    show (G.l.set i _).map _ = _
    rw [List.map_set, (hf _).1, (hf _).2, getD_get _ _ hi']
    have : (G.l[i].id, G.l[i].tp) = (G.l.map fun m => (m.id, m.tp))[i]'(by simpa using hi') := by simp
    rw [this, List.set_getElem_self]
theorem ow_upd {al : List Top} (h : Ow al G) (id : By) (f : GM → GM) (hf : ∀ m, (f m).id = m.id ∧ (f m).tp = m.tp) : Ow al (G.upd id f) := by
  have e1 := pairs_upd G id f hf
  have e2 : (G.upd id f).state = G.state ∧ (G.upd id f).shares = G.shares ∧ (G.upd id f).round = G.round := by unfold GG.upd; split <;> exact ⟨rfl, rfl, rfl⟩
  intro e
  rw [e1, e2.2.1, e2.2.2]
  rw [e2.1] at e
  exact h e
theorem ow_heard {al : List Top} (ha : G.all = al) (hst : St G) (h : Ow al G) (id : By) (gen n : Int) : Ow al (G.heard id gen n).1 := by
  have hg := ow_goes ha hst h n
  unfold GG.heard
  simp only
  split
  · exact ow_upd hg id _ fun m => ⟨rfl, rfl⟩
  · exact hg
theorem ow_sync {al : List Top} (ha : G.all = al) (hst : St G) (h : Ow al G) (id : By) (gen n : Int) : Ow al (G.sync id gen n).1 := by
  have hh := ow_heard ha hst h id gen n
  unfold GG.sync
  split
  · have h2 := ow_upd hh id (fun m => { m with synced := true }) fun m => ⟨rfl, rfl⟩
    simp only
    split
    · rename_i hc
      exact fun _ => h2 (.inl hc.1)
    · exact h2
  · exact hh
theorem ow_join3 {al : List Top} {i : Nat} {f : Bool} {tp : List By} (ha : G.all = al) (hi : i < G.l.length) (h : f = false → Ow al G) : Ow al (G.join3 i f tp) := by
  unfold GG.join3
  simp only
  split
  · refine ow_forms ?_ ?_
    · show (if _ then _ else _ : GG).all = al
      split
      · exact ha
      · rw [prepares_all]; exact ha
    · have hs : ∀ H : GG, (if H.state = 2 then H else H.prepares).state = 1 ∨ (if H.state = 2 then H else H.prepares).state = 2 := fun H => by
        split
        · rename_i e; exact .inr e
        · exact st_prep H
      exact ow_vac (hs _)
  · rename_i hc
    have hf : f = false := by
      cases f
      · rfl
      · exact absurd (.inl rfl) hc
    intro e
    have := h hf e
    show G.shares = sharesOf G.round ((G.l.set i _).map fun m => (m.id, m.tp)) al
    rw [this]
    congr 1
    rw [List.map_set, getD_get _ _ hi]
    have : (G.l[i].id, G.l[i].tp) = (G.l.map fun m => (m.id, m.tp))[i]'(by simpa using hi) := by simp
    simp only
    rw [this, List.set_getElem_self]
theorem ow_join {al : List Top} (hst : St G) (h : Ow al G) (id : By) (tp : List By) (n : Int) : Ow al (G.join id tp al n).1 := by
  have ht : Ow al (G.tick al n) := ow_goes (G := { G with all := al }) rfl ⟨hst.one, hst.rng⟩ h n
  have ha : (G.tick al n).all = al := goes_all _ _
  unfold GG.join
  generalize G.tick al n = G1 at *
  unfold GG.join1
  repeat' split
  · exact ht
  · exact ht
  · exact ht
  · rename_i g1 g2 g3
    refine ow_join3 (by rw [join2_all]; exact ha) (joinI_lt G1 id g3) fun hf => ?_
    have : G1.join2 id = G1 := by unfold GG.join2; rw [if_neg (of_decide_eq_false hf)]
    rw [this]
    exact ht
theorem ow_tick {al : List Top} (hst : St G) (h : Ow al G) (n : Int) : Ow al (G.tick al n) := ow_goes (G := { G with all := al }) rfl ⟨hst.one, hst.rng⟩ h n
/-- All slots are somebody's. -/
theorem sum_ow {al : List Top} {tp : List By} (h : Ow al G) (hs : G.state = 3 ∨ G.state = 4) (hn : (ids G).Nodup) (htp : ∀ j, j < G.l.length → (G.l.getD j gm0).tp = tp) (hl : G.l ≠ []) (hal : al.any badT = false ∧ (al.map Top.name).Nodup) (hin : ∀ t ∈ al, t.name ∈ tp) :
    ((ids G).map fun id => (ofD G.shares id).length).sum = (al.map fun t => t.parts.toNat).sum := by
  have h1 := resD_sum (rd := G.round) (l := G.l.map fun m => (m.id, m.tp)) (al := al) ⟨hal.1, by rw [List.map_map, List.map_map]; exact hn, hal.2⟩
  rw [← h hs, List.map_map] at h1
  unfold ids
  rw [List.map_map]
  refine Eq.trans h1 ?_
  unfold partsOf
  congr 1
  refine List.map_congr_left fun t ht => ?_
  rw [if_pos]
  rw [List.any_eq_true]
  have hpos : 0 < G.l.length := List.length_pos_iff.2 hl
  refine ⟨_, List.mem_map.2 ⟨G.l.getD 0 gm0, getD_memD gm0 hpos, rfl⟩, ?_⟩
  simp only [decide_eq_true_eq]
  rw [htp 0 hpos]
  exact hin t ht
end
end Go.Proofs.YtkcgokkgefgcjaaDoor.AS
end
section
namespace Go.Proofs.YtkcgokkgefgcjaaDoor.AS
open Go.Proofs.YtkcgokkgefgcjaaDoor.H Go.Proofs.YtkcgokkgefgcjaaDoor.G0
set_option linter.unusedVariables false
set_option linter.unusedSimpArgs false
set_option maxRecDepth 100000
section
variable {G : GG}
/-- Who has come again, whatever was before. -/
structure T0 (tp : List By) (al : List Top) (M : List By) (k : Nat) (G : GG) : Prop where
  q : Quiet G
  al : G.all = al
  nm : Nm G
  ids : ids G = M
  tps : ∀ j, j < k → (G.l.getD j gm0).tp = tp
  hd : ∀ j, j < k → (G.l.getD j gm0).heard = G.now
  st : (G.state = 3 ∨ G.state = 4) ∨ (G.state = 2 ∧ G.since = G.now) ∨ (G.state = 2 ∧ ∀ j, j < k → (G.l.getD j gm0).joined = true)
/-- It waits for those that have not come again. -/
structure W2 (tp : List By) (al : List Top) (M : List By) (G : GG) : Prop where
  q : Quiet G
  al : G.all = al
  nm : Nm G
  ids : ids G = M
  tps : ∀ j, j < G.l.length → (G.l.getD j gm0).tp = tp
  hd : ∀ j, j < G.l.length → (G.l.getD j gm0).heard = G.now
  s2 : G.state = 2
  si : G.since = G.now
end
end Go.Proofs.YtkcgokkgefgcjaaDoor.AS
end
section
namespace Go.Proofs.YtkcgokkgefgcjaaDoor.AS
open Go.Proofs.YtkcgokkgefgcjaaDoor.H Go.Proofs.YtkcgokkgefgcjaaDoor.G0
set_option linter.unusedVariables false
set_option linter.unusedSimpArgs false
set_option maxRecDepth 100000
section
variable {b s : HS} {g : Nat} {G : GG} {all A : HV} {ps : List (Nat × GM)} {o : Option DD} {K : Nat}
/-- Topics that are handed in: a row that lies still. -/
def AR (b : HS) (a : HV) (al : List Top) : Prop := ARow a al ∨ RowV b 2 a al.length (rows topC al)
theorem AR.le {b b' : HS} {a : HV} {al : List Top} (h : AR b a al) (hle : HS.le b b') : AR b' a al := by
  rcases h with h | h
  · exact .inl h
  · exact .inr (h.le hle)
theorem cloneAR {s : HS} {a : HV} {al : List Top} (h : AR s a al) (hn : al.length ≤ 1000) : HC Tryd.prog 38 [a] s (fun v t => Acc0 s t 2 v al.length (rows topC al) ∧ HS.le s t) := by
  rcases h with h | h
  · exact clone38 h hn
  · exact clone37 h (by omega)
def TArg (b : HS) (a : HV) (tp : List By) : Prop := (∃ ot, a = rowV strC 1 ot ∧ ot.getD [] = tp) ∨ (RowV b 1 a tp.length (rows strC tp) ∧ tp ≠ [])
theorem TArg.le {b b' : HS} {a : HV} {tp : List By} (h : TArg b a tp) (hle : HS.le b b') : TArg b' a tp := by
  rcases h with h | h
  · exact .inl h
  · exact .inr ⟨h.1.le hle, h.2⟩
theorem TArg.len {b : HS} {a : HV} {tp : List By} (h : TArg b a tp) (u : HS) : vLenT (Tryd.prog.underlying 32) u a = some (.lit (.int .i64 ((tp.length : Nat) : Int))) := by
  rcases h with ⟨ot, rfl, rfl⟩ | h
  · exact len_rowV ot u
  · exact h.1.len _ u
theorem equalT {s : HS} {a : HV} {tp : List By} (h : TArg s a tp) (l : List By) (hl : l.length ≤ 1000000000) : HC Tryd.prog 29 [rowL strC 1 l, a] s (fun v t => t = s ∧ v = .lit (.bool (decide (l = tp)))) := by
  rcases h with ⟨ot, rfl, rfl⟩ | h
  · exact equal29 (some l) ot s hl
  · obtain ⟨h, h0⟩ := h
    have hu : UpL [rowL strC 1 l, a] s [rowL strC 1 l, a] s := UpL.refl _ _
    refine HC29 ?_
    unfold c29
    have i1 := fun i (hi : i < l.length) => idx_rowL strC_len ([] : By) l .i64 hi
    rw [show vLenT (Tryd.prog.underlying 32) s (rowL strC 1 l) = some (.lit (.int .i64 ((l.length : Nat) : Int))) from rfl, show vLenT (Tryd.prog.underlying 32) s a = some (.lit (.int .i64 ((tp.length : Nat) : Int))) from h.len _ s]
    simp only [bindO]
    rw [neq_n]
    by_cases hn : l.length = tp.length
    · simp only [hn, decide_true, Bool.not_true, hcond]
      rw [← hn]
      refine HLoop.ghost (σ := Nat) (fun i => [.lit (.int .i64 (i : Int))]) (fun i t => i ≤ l.length ∧ t = s ∧ l.take i = tp.take i) (fun i => l.length - i) 0 rfl ⟨Nat.zero_le _, rfl, by simp⟩ ?_
      rintro i t K ⟨h1, rfl, h3⟩ hK
      simp only [List.headD_cons, lss_i]
      by_cases hi : i < l.length
      · have la1 := take_succ' ([] : By) l hi
        have lb1 := take_succ' ([] : By) tp (by omega : i < tp.length)
        obtain ⟨q, x1, x2⟩ := h.at_ strC_len ([] : By) (i := i) (by omega)
        have x3 := (x2 t (le_refl' t)).2 0 (by omega) 1
        rw [Nat.add_zero] at x3
        have l0 : ∀ x : By, vLoad t (.elt (strC x) 0) 1 false = some (strV x) := fun x => rfl
        simp only [hi, decide_true, hcond, i1 i hi, x1, x3, l0, strC, List.getElem?_cons_zero, neq_s]
        have l1 : vLoad t (.elt [strV (l.getD i [])] 0) 1 false = some (strV (l.getD i [])) := rfl
        simp only [l1, neq_s]
        by_cases he : l.getD i [] = tp.getD i []
        · simp only [he, decide_true, Bool.not_true, inc_i hi (by omega)]
          exact hK (i + 1) _ _ rfl ⟨hi, rfl, by rw [la1, lb1, h3, he]⟩ (by omega)
        · simp only [he, decide_false, Bool.not_false]
          refine ⟨trivial, ?_⟩
          congr 2
          symm
          rw [decide_eq_false_iff_not]
          rintro rfl
          exact he rfl
      · obtain rfl : i = l.length := by omega
        simp only [hi, decide_false, hcond]
        refine ⟨trivial, ?_⟩
        rw [List.take_length, hn, List.take_length] at h3
        simp [h3]
    · simp only [hn, decide_false, Bool.not_false, hcond]
      refine ⟨trivial, ?_⟩
      congr 2
      symm
      rw [decide_eq_false_iff_not]
      rintro rfl
      exact hn rfl
theorem cloneT {s : HS} {a : HV} {tp : List By} (h : TArg s a tp) (hl : tp.length ≤ 1000000000) : HC Tryd.prog 30 [a] s (fun v t => t = s ∧ v = rowL strC 1 tp) := by
  rcases h with ⟨ot, rfl, rfl⟩ | ⟨h, h0⟩
  · exact clone30 ot s hl
  · rcases h with ⟨-, h1, h2⟩ | ⟨q, f, rfl, h2, h3⟩
    · exact absurd (List.eq_nil_of_length_eq_zero h2) h0
    · refine HC.up (HC30 ?_)
      unfold c30
      rw [show vCmp (Tryd.prog.underlying 32) .eql (.view q 0 1 tp.length f) (.lit (.slice none 0 0)) = some (.lit (.bool false)) from rfl]
      simp only [bindO, hcond]
      refine hBS0 fun id hid => ?_
      have hr : RowV s 1 (.view q 0 1 tp.length f) tp.length (rows strC tp) := .inr ⟨q, f, rfl, h2, h3⟩
      exact app_empty (b := s) (le_set_new _ (le_refl' s) hid) hid (set_at _ _ _) (hr.le (le_set_new _ (le_refl' s) hid)).lc hr.llen hr.cl ⟨by omega, by omega⟩ fun A' t' k1 k2 => ⟨rowL strC 1 tp, s, acc0_upL k1 k2, rfl, rfl⟩
theorem tick17G (h : GSt b s g G all A ps o) (hb : Bd K G) (hk : K + 1 ≤ 1000000) {a : HV} {al : List Top} (ha : AR b a al) (hal : al.length ≤ 1000) {now : Int} (hn : now ≤ 1125899906842624) :
    HC Tryd.prog 17 [.ptr g 0, a, .lit (.int .i64 now)] s (fun v t => ∃ b' all' A' ps' o', HS.le b b' ∧ RowV b' 2 all' al.length (rows topC al) ∧ GSt b' t g (G.tick al now) all' A' ps' o') := by
  refine HC17 ?_
  unfold c17
  simp only [nep23, bindO, hcond]
  refine (cloneAR (ha.le h.le) hal).mono ?_
  rintro v t ⟨h1, h2⟩
  have hu := h.ups h2
  have hr := acc0_ups (b := b) h1
  have hle := le_ups (t := t) h.le
  generalize ups b s t = b1 at *
  simp only [hvNil, hvFld]
  refine store1 hu.at_ (by simp [gC]) (acc0_one h1).2 (acc0_one h1).1 rfl ?_
  have h0 := hu.putG { G with all := al } v o rfl hu.sh
  rw [show (gC G all A o).set 8 v = gC { G with all := al } v A o from rfl]
  refine (goes39 h0 hr (hb.setAll hal) hk hn).mono ?_
  rintro _ u ⟨A', ps', o', h3⟩
  exact ⟨b1, v, A', ps', o', hle, hr, h3⟩
theorem tickIG (h : IsG b s g G) (hb : Bd K G) (hk : K + 1 ≤ 1000000) {a : HV} {al : List Top} (ha : AR b a al) (hal : al.length ≤ 1000) {now : Int} (hn : now ≤ 1125899906842624) :
    HC Tryd.prog 17 [.ptr g 0, a, .lit (.int .i64 now)] s (fun v t => IsG b t g (G.tick al now)) := by
  obtain ⟨b1, all, A, ps, o, h1, h2, h3⟩ := h
  refine (tick17G h3 hb hk (ha.le h1) hal hn).mono ?_
  rintro v t ⟨b2, all2, A2, ps2, o2, k1, k2, k3⟩
  exact k3.is (HS.le.trans h1 k1) (by rw [show (G.tick al now).all = al from goes_all _ _]; exact k2)
theorem join10G (h : IsG b s g G) (hb : Bd K G) (hk : K + 3 ≤ 1000000) {a : HV} {al : List Top} (ha : AR b a al) (hal : al.length ≤ 1000) {now : Int} (hn : now ≤ 1125899906842624) (hg : 0 ≤ G.given ∧ G.given < 99) (id : By) {a2 : HV} {tp : List By} (hta : TArg b a2 tp) (hot : tp.length ≤ 1000000) :
    HC Tryd.prog 10 [.ptr g 0, strV id, a2, a, .lit (.int .i64 now)] s (fun v t => IsG b t g (G.join id tp al now).1 ∧ v = .tup [strV (G.join id tp al now).2.1, .lit (.int .i64 (G.join id tp al now).2.2.1), .lit (.int .i64 (G.join id tp al now).2.2.2)]) := by
  obtain ⟨b1, all, A, ps, o, h1, h2, h3⟩ := h
  refine HC10 ?_
  unfold c10
  simp only [eqp23, bindO, hcond]
  refine (tick17G h3 hb (by omega) (ha.le h1) hal hn).mono ?_
  rintro _ t1 ⟨b2, all2, A2, ps2, o2, k1, k2, k3⟩
  have hb1 : Bd (K + 1) (G.tick al now) := (hb.setAll hal).goes (by omega) hn
  have hall1 : (G.tick al now).all = al := goes_all _ _
  have hg1 : (G.tick al now).given = G.given := given_goes _ _
  have hle : HS.le b b2 := HS.le.trans h1 k1
  unfold GG.join
  generalize G.tick al now = G1 at *
  rw [← hg1] at hg
  rw [← hall1] at k2
  clear h1 h2 h3 hg1 k1 ps o A all hall1
  refine (find27 k3 (hb1.pslen k3) id).mono ?_
  rintro _ t ⟨rfl, rfl⟩
  rw [hta.len t]
  simp only [gtr_n]
  unfold GG.join1
  by_cases hlen : 30 < tp.length
  · simp only [show decide ((30 : Int) < (tp.length : Int)) = true from by simp; omega, hlen, if_true]
    exact ⟨k3.is hle k2, by trivial⟩
  simp only [show decide ((30 : Int) < (tp.length : Int)) = false from by simp; omega, hlen, if_false]
  have hA2 : ∀ u, vLenT (Tryd.prog.underlying 66) u A2 = some (.lit (.int .i64 (ps2.length : Int))) := fun u => k3.acc.len _ _
  refine Join.of (fun xs u => u = t ∧ xs = [.lit (.bool (decide (id = [] ∧ 20 ≤ G1.l.length)))]) ?_ ?_
  rotate_left
  · intro K8 hK8
    rw [show (HV.lit (.string { data := #[] })) = strV [] from rfl]
    simp only [eql_s]
    by_cases hid : id = []
    · simp only [hid, decide_true, hvNil, hvFld, k3.ld, gC, List.getElem?_cons_succ, List.getElem?_cons_zero, hA2, geq_n]
      refine hK8 _ _ ⟨rfl, ?_⟩
      rw [k3.len]
      congr 3
      simp [hid]
      omega
    · simp only [hid, decide_false]
      exact hK8 _ _ ⟨rfl, by simp [hid]⟩
  rintro _ u ⟨rfl, rfl⟩
  simp only [List.headD_cons]
  by_cases hfull : id = [] ∧ 20 ≤ G1.l.length
  · simp only [hfull, decide_true, if_true, and_self]
    exact ⟨k3.is hle k2, by trivial⟩
  rw [if_neg hfull, show decide (id = [] ∧ 20 ≤ G1.l.length) = false from decide_eq_false hfull]
  simp only
  refine Join.of (fun xs t => t = u ∧ xs = [.lit (.bool (decide (id ≠ [] ∧ G1.at_ id = none)))]) ?_ ?_
  rotate_left
  · intro K17 hK17
    rw [show (HV.lit (.string { data := #[] })) = strV [] from rfl]
    simp only [neq_s]
    by_cases hid : id = []
    · simp only [hid, decide_true, Bool.not_true]
      exact hK17 _ _ ⟨rfl, by simp [hid]⟩
    · simp only [hid, decide_false, Bool.not_false, nil_pt]
      refine hK17 _ _ ⟨rfl, ?_⟩
      congr 3
      simp [hid]
  rintro _ t ⟨rfl, rfl⟩
  simp only [List.headD_cons]
  by_cases hno : id ≠ [] ∧ G1.at_ id = none
  · rw [if_pos hno, show decide (id ≠ [] ∧ G1.at_ id = none) = true from decide_eq_true hno]
    simp only
    exact ⟨k3.is hle k2, by trivial⟩
  rw [if_neg hno, show decide (id ≠ [] ∧ G1.at_ id = none) = false from decide_eq_false hno]
  simp only
  rw [show (HV.lit (.string { data := #[] })) = strV [] from rfl]
  simp only [eql_s]
  -- the member
  refine Join.of (fun xs u => ∃ A' ps' tv, xs = [.ptr (ps'.getD (G1.joinI id) p0).1 0] ∧ Mid b2 u g (G1.join2 id) all2 A' ps' o2 (G1.joinI id) tv ∧ (decide (id = []) = false → tv = rowL strC 1 (ps'.getD (G1.joinI id) p0).2.tp) ∧ (ps'.getD (G1.joinI id) p0).2.id = G1.nm id) ?_ ?_
  rotate_left
  · intro K23 hK23
    by_cases hid : id = []
    · subst hid
      simp only [decide_true, hvNil, hvFld, k3.ld, gC, List.getElem?_cons_succ, List.getElem?_cons_zero]
      rw [add_n (a := G1.given) (b := 1) (by omega) (by omega)]
      refine store1 k3.at_ (by simp [gC]) (hc_int _ _) (ho_int _ _) rfl ?_
      have k4 := k3.putG { G1 with given := G1.given + 1 } all2 o2 rfl k3.sh
      rw [show (gC G1 all2 A2 o2).set 5 (.lit (.int .i64 (G1.given + 1))) = gC { G1 with given := G1.given + 1 } all2 A2 o2 from rfl]
      generalize t.set g (.cells (gC { G1 with given := G1.given + 1 } all2 A2 o2)) = t3 at *
      simp only [k4.ld, gC, List.getElem?_cons_succ, List.getElem?_cons_zero]
      obtain ⟨n, hn⟩ : ∃ n : Nat, G1.given + 1 = (n : Int) := ⟨(G1.given + 1).toNat, by omega⟩
      rw [hn]
      refine (itoa28 (n := n) (by omega)).mono ?_
      rintro v t4 ⟨rfl, rfl⟩
      rw [show (HV.lit (.string { data := #[109] })) = strV [109] from rfl, add_s (by have := decL_len 1 n (by omega); simp; omega)]
      simp only [List.cons_append, List.nil_append]
      have enm : G1.nm [] = 109 :: decL n := by unfold GG.nm; rw [if_pos rfl, hn]; rfl
      have e2 : G1.join2 [] = { G1 with given := (n : Int), l := G1.l ++ [⟨109 :: decL n, [], 0, false, false⟩] } := by unfold GG.join2; rw [if_pos rfl, enm, hn]
      have ei : G1.joinI [] = ps2.length := by unfold GG.joinI; rw [if_pos rfl, k3.len]
      rw [show vMk [(0, 1), (1, 1), (2, 1), (3, 1), (4, 1)] [.lit (.string .empty), .lit (.slice none 0 0), .lit (.int .i64 0), .lit (.bool false), .lit (.bool false)] [(0, strV (109 :: decL n))] = some (.agg [strV (109 :: decL n), nilV, .lit (.int .i64 0), .lit (.bool false), .lit (.bool false)]) from rfl]
      simp only
      refine hbox_intro (hc_agg _) fun q hq => ?_
      have k5 := k4.mono (le_set_new (.cells [strV (109 :: decL n), nilV, .lit (.int .i64 0), .lit (.bool false), .lit (.bool false)]) (le_refl' t4) hq)
      simp only [k5.ld, gC, List.getElem?_cons_succ, List.getElem?_cons_zero]
      refine k5.acc.app1 k5.le (by omega) (hc_ptr _ _) rfl rfl ⟨by have := hb1.pslen k3; omega, by have := hb1.pslen k3; omega⟩ fun A3 t6 g1 g2 g3 => ?_
      have kg := (g3 g _ k5.accg k5.at_).1
      refine store1 kg (by simp [gC]) g1.hc g1.one rfl ?_
      rw [show (gC { G1 with given := G1.given + 1 } all2 A2 o2).set 9 A3 = gC { G1 with given := (n : Int), l := G1.l ++ [⟨109 :: decL n, [], 0, false, false⟩] } all2 A3 o2 from by rw [hn]; rfl]
      rw [ei, e2, enm] at hK23
      have hadd := fun m => addM k4 hq _ g1 g2 g3 m { G1 with given := (n : Int), l := G1.l ++ [m] } rfl rfl
      have eg : (ps2 ++ [(q, (⟨109 :: decL n, [], 0, false, false⟩ : GM))]).getD ps2.length p0 = (q, ⟨109 :: decL n, [], 0, false, false⟩) := by simp [List.getD]
      refine hK23 _ _ ⟨A3, ps2 ++ [(q, ⟨109 :: decL n, [], 0, false, false⟩)], nilV, by rw [eg], ⟨by simp, ?_, fun m => ?_, ?_⟩, by simp, by rw [eg]⟩
      · rw [eg]
        have hqg : q ≠ g := fun e => by rw [e, k4.at_] at hq; cases hq
        rw [set_ne _ _ hqg]
        have hAq : accId A2 ≠ some q := fun e => by obtain ⟨-, r, h2⟩ := k4.acc.free e; rw [hq] at h2; cases h2
        exact (g3 q _ hAq (set_at _ _ _)).1
      · rw [eg]
        have e1 : (ps2 ++ [(q, (⟨109 :: decL n, [], 0, false, false⟩ : GM))]).set ps2.length (q, m) = ps2 ++ [(q, m)] := by simp
        have e3 : (G1.l ++ [(⟨109 :: decL n, [], 0, false, false⟩ : GM)]).set ps2.length m = G1.l ++ [m] := by rw [← k3.len]; simp
        rw [e1]
        simp only
        rw [e3]
        exact hadd m
      · show G1.l ++ [_] = _
        rw [k3.l, List.map_append]
        rfl
    · simp only [hid, decide_false]
      obtain ⟨i, hi⟩ : ∃ i, G1.at_ id = some i := by
        cases hi : G1.at_ id with
        | none => exact absurd ⟨hid, hi⟩ hno
        | some i => exact ⟨i, rfl⟩
      have ei : G1.joinI id = i := by unfold GG.joinI; rw [if_neg hid, hi]; rfl
      have e2 : G1.join2 id = G1 := by unfold GG.join2; rw [if_neg hid]
      have enm : G1.nm id = id := by unfold GG.nm; rw [if_neg hid]
      rw [ei, e2, enm] at hK23
      have hlt := at_lt k3 hi
      rw [hi]
      refine hK23 _ _ ⟨A2, ps2, _, rfl, k3.mid hlt, fun _ => rfl, ?_⟩
      have := (List.findIdx?_eq_some_iff_getElem.1 (show G1.l.findIdx? _ = some i from hi)).2.1
      simp only [k3.l, List.getElem_map, decide_eq_true_eq] at this
      rw [getD_get _ _ hlt]
      exact this
  rintro _ u ⟨A3, ps3, tv, rfl, hmid, htv, hnm⟩
  have hall2 : (G1.join2 id).all = G1.all := join2_all _ _
  have hb2 : Bd (K + 2) (G1.join2 id) := by
    unfold GG.join2
    split
    · refine ⟨hb1.now, hb1.since, fun m hm => ?_, ?_, ?_, hb1.all, hb1.sh, by omega⟩
      · rcases List.mem_append.1 (show m ∈ G1.l ++ [_] from hm) with hm | hm
        · exact hb1.mem m hm
        · rw [List.mem_singleton.1 hm]; exact ⟨Int.le_refl 0, by show (0 : Int) ≤ _; omega, by simp⟩
      · have := hb1.gen; exact ⟨this.1, by show G1.gen ≤ _; omega⟩
      · show (G1.l ++ [_]).length ≤ _
        have := hb1.len
        simp; omega
    · exact hb1.mono (by omega) (by omega)
  rw [← hall2] at k2
  generalize G1.join2 id = G2 at *
  generalize G1.joinI id = i at *
  generalize G1.nm id = nm at *
  obtain ⟨fr, hfr⟩ : ∃ fr, decide (id = []) = fr := ⟨_, rfl⟩
  rw [hfr] at htv ⊢
  clear hno hfull hfr k3 hA2 hg hb1
  have hne := hmid.ne
  have hget := hmid.get
  have lg : ∀ k, vLoad u (.ptr g k) 1 false = (gC G2 all2 A3 o2)[k]? := fun k => load_cell k 1 hmid.at_
  simp only [List.headD_cons, hvNil, hvFld, lg, gC, List.getElem?_cons_succ, List.getElem?_cons_zero]
  refine store1 hmid.cell (by simp [gmC]) (hc_int _ _) (ho_int _ _) rfl ?_
  have lg1 : ∀ k, vLoad (u.set (ps3.getD i p0).1 (.cells (((gmC (ps3.getD i p0).2).set 1 tv).set 2 (.lit (.int .i64 G2.now))))) (.ptr g k) 1 false = (gC G2 all2 A3 o2)[k]? := fun k => load_cell k 1 (by rw [set_ne _ _ (Ne.symm hne)]; exact hmid.at_)
  have lm1 : ∀ k, vLoad (u.set (ps3.getD i p0).1 (.cells (((gmC (ps3.getD i p0).2).set 1 tv).set 2 (.lit (.int .i64 G2.now))))) (.ptr (ps3.getD i p0).1 k) 1 false = (((gmC (ps3.getD i p0).2).set 1 tv).set 2 (.lit (.int .i64 G2.now)))[k]? := fun k => load_cell k 1 (set_at _ _ _)
  have at1 := set_at u (ps3.getD i p0).1 (.cells (((gmC (ps3.getD i p0).2).set 1 tv).set 2 (.lit (.int .i64 G2.now))))
  have e3 : { G2 with l := G2.l.set i { (ps3.getD i p0).2 with heard := G2.now } } = G2.updAt i fun m => { m with heard := G2.now } := by unfold GG.updAt; rw [hget]
  have e4 : ∀ tp : List By, { G2 with l := G2.l.set i { (ps3.getD i p0).2 with heard := G2.now, tp := tp } } = (G2.updAt i fun m => { m with heard := G2.now }).updAt i fun m => { m with tp := tp } := fun tp => by
    rw [updAt_two _ _ _ _ (by rw [hmid.l]; simpa using hmid.hi)]
    unfold GG.updAt
    rw [hget]
  have hle1 : HS.le b2 (u.set (ps3.getD i p0).1 (.cells (((gmC (ps3.getD i p0).2).set 1 tv).set 2 (.lit (.int .i64 G2.now))))) := fun k ob hk => by
    have h1 := (hmid.set_ gm0).le k ob hk
    have hfree := ((hmid.set_ gm0).mem ((ps3.getD i p0).1, gm0) (List.mem_iff_getElem.2 ⟨i, by rw [List.length_set]; exact hmid.hi, by rw [List.getElem_set_self]⟩)).1
    have hne2 : k ≠ (ps3.getD i p0).1 := fun e => by rw [e, hfree] at hk; cases hk
    rw [set_ne _ _ hne2] at h1 ⊢
    exact h1
  have hset := hmid.set_
  have hlt3 := hmid.hi
  have tp3 : ((G2.updAt i fun m => { m with heard := G2.now }).l.getD i gm0).tp = (ps3.getD i p0).2.tp := by
    rw [← e3]
    show ((G2.l.set i _).getD i gm0).tp = _
    rw [getD_get _ _ (by rw [List.length_set, hmid.l]; simpa using hlt3), List.getElem_set_self]
  have hj3 : G2.join3 i fr tp = if (fr || decide (G2.state = 2) || !decide ((ps3.getD i p0).2.tp = tp)) = true then
      (((if ((G2.updAt i fun m => { m with heard := G2.now }).updAt i fun m => { m with tp := tp }).state = 2 then ((G2.updAt i fun m => { m with heard := G2.now }).updAt i fun m => { m with tp := tp }) else ((G2.updAt i fun m => { m with heard := G2.now }).updAt i fun m => { m with tp := tp }).prepares).updAt i fun m => { m with joined := true }).forms) else G2.updAt i fun m => { m with heard := G2.now } := by
    unfold GG.join3
    simp only
    rw [tp3]
    have est : (G2.updAt i fun m => { m with heard := G2.now }).state = G2.state := rfl
    rw [est]
    simp only [Bool.or_eq_true, Bool.not_eq_true', decide_eq_true_eq, decide_eq_false_iff_not, or_assoc, ne_eq]
  generalize hu1 : u.set (ps3.getD i p0).1 (.cells (((gmC (ps3.getD i p0).2).set 1 tv).set 2 (.lit (.int .i64 G2.now)))) = u1 at *
  refine Join.of (fun xs t => ∃ A' ps' o', GSt b2 t g (G2.join3 i fr tp) all2 A' ps' o' ∧ ∃ p ∈ ps', p.1 = (ps3.getD i p0).1 ∧ p.2.id = nm) ?_ ?_
  · rintro _ t ⟨A5, ps5, o5, h5, p, hp, hp1, hp2⟩
    have lp := h5.ldm hp 0
    rw [hp1] at lp
    have hall3 : (G2.join3 i fr tp).all = G2.all := join3_all _ _ _ _
    rw [← hall3] at k2
    generalize G2.join3 i fr tp = G6 at *
    simp only [h5.ld, gC, List.getElem?_cons_succ, List.getElem?_cons_zero, eql_n]
    by_cases hs : G6.state = 2
    · simp only [hs, decide_true, lp, gmC, List.getElem?_cons_zero, if_true]
      exact ⟨h5.is hle k2, by rw [hp2]⟩
    · simp only [hs, decide_false, lp, gmC, List.getElem?_cons_zero, if_false, h5.ld, gC, List.getElem?_cons_succ]
      exact ⟨trivial, h5.is hle k2, by rw [hp2]⟩
  intro K58 hK58
  refine Join.of (fun xs t => t = u1 ∧ xs = [.lit (.bool (fr || decide (G2.state = 2) || !decide ((ps3.getD i p0).2.tp = tp)))]) ?_ ?_
  rotate_left
  · intro K61 hK61
    cases hfr : fr with
    | true =>
      simp only
      exact hK61 _ _ ⟨rfl, by rw [hfr]; rfl⟩
    | false =>
      simp only [lg1, gC, List.getElem?_cons_succ, List.getElem?_cons_zero, eql_n]
      by_cases hs : G2.state = 2
      · simp only [hs, decide_true]
        exact hK61 _ _ ⟨rfl, by rw [hfr, hs]; rfl⟩
      · have l1 : vLoad u1 (.ptr (ps3.getD i p0).1 1) 1 false = some (rowV strC 1 (some (ps3.getD i p0).2.tp)) := by rw [lm1, htv hfr]; rfl
        simp only [hs, decide_false, l1]
        have htp3 : (ps3.getD i p0).2.tp.length ≤ 1000000000 := by
          have := (hb2.mem (ps3.getD i p0).2 (by rw [hmid.l]; exact List.mem_map.2 ⟨_, getD_memD p0 hlt3, rfl⟩)).2.2
          omega
        refine (equalT (hta.le (HS.le.trans hle hle1)) (ps3.getD i p0).2.tp htp3).mono ?_
        rintro v t ⟨rfl, rfl⟩
        simp only [vUn]
        exact hK61 _ _ ⟨rfl, by rw [hfr, decide_eq_false hs]; rfl⟩
  rintro _ t ⟨rfl, rfl⟩
  simp only [List.headD_cons]
  cases hc : fr || decide (G2.state = 2) || !decide ((ps3.getD i p0).2.tp = tp) with
  | false =>
    simp only
    rw [hc] at hj3
    simp only [Bool.false_eq_true, if_false] at hj3
    have hfr : fr = false := by simp only [Bool.or_eq_false_iff] at hc; exact hc.1.1
    have h3 := hset { (ps3.getD i p0).2 with heard := G2.now }
    rw [e3, ← hj3] at h3
    have ecell : ((gmC (ps3.getD i p0).2).set 1 tv).set 2 (.lit (.int .i64 G2.now)) = gmC { (ps3.getD i p0).2 with heard := G2.now } := by rw [htv hfr]; rfl
    rw [ecell] at hu1
    rw [hu1] at h3
    exact hK58 _ _ ⟨_, _, _, h3, ((ps3.getD i p0).1, { (ps3.getD i p0).2 with heard := G2.now }), List.mem_iff_getElem.2 ⟨i, by rw [List.length_set]; exact hlt3, by rw [List.getElem_set_self]⟩, rfl, hnm⟩
  | true =>
    simp only
    rw [hc] at hj3
    simp only [if_true] at hj3
    refine (cloneT (hta.le (HS.le.trans hle hle1)) (by omega)).mono ?_
    rintro v t' ⟨rfl, rfl⟩
    refine store1 at1 (by simp [gmC]) (hc_rowV strC 1 (some tp)) (ho_rowV strC 1 (some tp)) rfl ?_
    rw [← hu1, set_set]
    rw [show (((gmC (ps3.getD i p0).2).set 1 tv).set 2 (.lit (.int .i64 G2.now))).set 1 (rowL strC 1 tp) = gmC { (ps3.getD i p0).2 with heard := G2.now, tp := tp } from rfl]
    have h4 := hset { (ps3.getD i p0).2 with heard := G2.now, tp := tp }
    rw [e4] at h4
    have hb4 : Bd (K + 2) ((G2.updAt i fun m => { m with heard := G2.now }).updAt i fun m => { m with tp := tp }) :=
      (hb2.updAt (fun m => { m with heard := G2.now }) (fun m hm => ⟨hb2.now.1, hb2.now.2, hm.2.2⟩)).updAt (fun m => { m with tp := tp }) (fun m hm => ⟨hm.1, hm.2.1, hot⟩)
    have ha4 : ((G2.updAt i fun m => { m with heard := G2.now }).updAt i fun m => { m with tp := tp }).all = G2.all := rfl
    have hlt4 : i < (ps3.set i ((ps3.getD i p0).1, { (ps3.getD i p0).2 with heard := G2.now, tp := tp })).length := by rw [List.length_set]; exact hlt3
    have hat4 : (ps3.set i ((ps3.getD i p0).1, { (ps3.getD i p0).2 with heard := G2.now, tp := tp })).getD i p0 = ((ps3.getD i p0).1, { (ps3.getD i p0).2 with heard := G2.now, tp := tp }) := by
      rw [getD_get _ _ hlt4, List.getElem_set_self]
    generalize ((G2.updAt i fun m => { m with heard := G2.now }).updAt i fun m => { m with tp := tp }) = G4 at *
    generalize u.set (ps3.getD i p0).1 (.cells (gmC { (ps3.getD i p0).2 with heard := G2.now, tp := tp })) = u2 at h4 ⊢
    have hq4 : ((ps3.set i ((ps3.getD i p0).1, { (ps3.getD i p0).2 with heard := G2.now, tp := tp })).getD i p0).1 = (ps3.getD i p0).1 := by rw [hat4]
    have hid4 : ((ps3.set i ((ps3.getD i p0).1, { (ps3.getD i p0).2 with heard := G2.now, tp := tp })).getD i p0).2.id = nm := by rw [hat4]; exact hnm
    generalize (ps3.set i ((ps3.getD i p0).1, { (ps3.getD i p0).2 with heard := G2.now, tp := tp })) = ps4 at *
    refine Join.of (fun _ w => ∃ ps5, GSt b2 w g (if G4.state = 2 then G4 else G4.prepares) all2 A3 ps5 o2 ∧ ps5.map Prod.fst = ps4.map Prod.fst) ?_ ?_
    rotate_left
    · intro K79 hK79
      simp only [h4.ld, gC, List.getElem?_cons_succ, List.getElem?_cons_zero, neq_i3]
      by_cases hs : G4.state = 2
      · simp only [hs, decide_true, Bool.not_true]
        exact hK79 _ _ ⟨ps4, by rw [if_pos hs]; exact h4, rfl⟩
      · simp only [hs, decide_false, Bool.not_false]
        refine (prepares31 h4 (hb4.pslen h4)).mono ?_
        rintro v w ⟨ps5, h5, h6⟩
        exact hK79 _ _ ⟨ps5, by rw [if_neg hs]; exact h5, h6⟩
    rintro _ w ⟨ps5, h5, h6⟩
    have hids : (if G4.state = 2 then G4 else G4.prepares).l.map GM.id = G4.l.map GM.id := by
      split
      · rfl
      · exact prepares_ids G4
    have ha5 : (if G4.state = 2 then G4 else G4.prepares).all = G4.all := by
      split
      · rfl
      · exact prepares_all G4
    have hb5 : Bd (K + 2) (if G4.state = 2 then G4 else G4.prepares) := by
      split
      · exact hb4
      · exact hb4.prepares
    generalize (if G4.state = 2 then G4 else G4.prepares) = G5 at *
    have hlt5 : i < ps5.length := by
      have := congrArg List.length h6
      rw [List.length_map, List.length_map] at this
      omega
    have hq5 : (ps5.getD i p0).1 = (ps3.getD i p0).1 := (fst_at h6 i).trans hq4
    have hid5 : (ps5.getD i p0).2.id = nm := by rw [← h5.idAt hlt5, hids, h4.idAt hlt4, hid4]
    have hm5 := getD_memD p0 hlt5
    rw [← hq5]
    refine store1 (h5.mem _ hm5).2.1 (by simp [gmC]) (hc_bool _) (ho_bool _) rfl ?_
    rw [show (gmC (ps5.getD i p0).2).set 3 (.lit (.bool true)) = gmC { (ps5.getD i p0).2 with joined := true } from rfl]
    have h7 := h5.updAt hlt5 (fun m => { m with joined := true })
    have hb7 := hb5.updAt (i := i) (fun m => { m with joined := true }) (fun m hm => hm)
    have hall7 : RowV b2 2 all2 (G5.updAt i fun m => { m with joined := true }).all.length (rows topC (G5.updAt i fun m => { m with joined := true }).all) := by
      show RowV b2 2 all2 G5.all.length (rows topC G5.all)
      rw [ha5, ha4]
      exact k2
    refine (forms32 h7 hall7 hb7).mono ?_
    rintro v x ⟨A', ps', o', h8, h9⟩
    obtain ⟨p, p1, p2, p3⟩ := h9 ((ps5.getD i p0).1, { (ps5.getD i p0).2 with joined := true }) (List.mem_iff_getElem.2 ⟨i, by rw [List.length_set]; exact hlt5, by rw [List.getElem_set_self]⟩) rfl
    rw [← hj3] at h8
    exact hK58 _ _ ⟨A', ps', o', h8, p, p1, p2.trans hq5, p3.trans hid5⟩
end
end Go.Proofs.YtkcgokkgefgcjaaDoor.AS
end
section
namespace Go.Proofs.YtkcgokkgefgcjaaDoor.AS
open Go.Proofs.YtkcgokkgefgcjaaDoor.H Go.Proofs.YtkcgokkgefgcjaaDoor.G0
set_option linter.unusedVariables false
set_option linter.unusedSimpArgs false
set_option maxRecDepth 100000
section
variable {b s : HS} {g : Nat} {G : GG}
theorem IsG.growO {X : Nat} (h : IsG b s g G) (hX : s X = none) (ob : HObj) : IsG (b.set X ob) (s.set X ob) g G := by
  obtain ⟨b1, all, A, ps, o, h1, h2, h3⟩ := h
  have hb1 := none_of_le h3.le hX
  refine ⟨b1.set X ob, all, A, ps, o, le_set h1 X ob, h2.le (le_set_new _ (le_refl' b1) hb1), h3.grow hX ob⟩
/-- What holds behind each step, where a step may do nothing. -/
structure RS (al : List Top) (i : Nat) (n : Int) (G : GG) : Prop where
  q : Quiet G
  se : G.session = 40
  rb : G.rebalance = 10
  nw : G.now ≤ n
  gv : G.given ≤ i
  nm : Nm G
  bd : Bd (3 * i) G
  ow : Ow al G
  ad : G.all = al ∨ (G.state = 1 ∧ G.l = [])
  ln : G.l.length ≤ 20
/-- What holds between turns. -/
structure TN (tp : List By) (al : List Top) (t : Nat) (n : Int) (G : GG) : Prop where
  q : Quiet G
  se : G.session = 40
  rb : G.rebalance = 10
  nw : G.now = n
  all : G.all = al
  nm : Nm G
  ow : Ow al G
  gv : G.given < 99
  ln : G.l.length ≤ 20
  bd : Bd (300 + 100 * t) G
  ne : 1 ≤ t → G.l ≠ []
  tps : 1 ≤ t → ∀ j, j < G.l.length → (G.l.getD j gm0).tp = tp
  s2 : t = 1 → G.state = 2 ∨ G.state = 4
  s4 : 2 ≤ t → G.state = 4
/-- What stays in a turn. -/
structure Ke (al : List Top) (n : Int) (G : GG) : Prop where
  se : G.session = 40
  rb : G.rebalance = 10
  nw : G.now = n
  ow : Ow al G
  gv : 0 ≤ G.given ∧ G.given < 99
  ln : G.l.length ≤ 20
theorem mv_known {k : Nat} {tp : List By} {al : List Top} {n : Int} (hq : Quiet G) (ha : G.all = al) (hn : n ≤ G.now) (hnm : Nm G) (htp : tp.length ≤ 30) (hk : k < G.l.length) : Mv G (G.join (G.l.getD k gm0).id tp al n).1 := by
  rw [join_known hq ha hn hnm htp hk]
  exact mv_join3 G false tp hk
end
end Go.Proofs.YtkcgokkgefgcjaaDoor.AS
end
section
namespace Go.Proofs.YtkcgokkgefgcjaaDoor.AS
open Go.Proofs.YtkcgokkgefgcjaaDoor.H Go.Proofs.YtkcgokkgefgcjaaDoor.G0
set_option linter.unusedVariables false
set_option linter.unusedSimpArgs false
set_option maxRecDepth 100000
section
variable {b s : HS} {g : Nat} {G : GG}
def alS : List Top := [⟨[97], 12⟩]
/-- One with the topic a joins. -/
theorem joinA (h : IsG b s g G) {K : Nat} (hb : Bd K G) (hk : K + 3 ≤ 1000000) {a : HV} {al : List Top} (ha : AR b a al) (hal : al.length ≤ 1000) {now : Int} (hn : now ≤ 1125899906842624) (hg : 0 ≤ G.given ∧ G.given < 99) (id : By) {Q : HV → HS → Prop}
    (hQ : ∀ t, IsG b t g (G.join id [[97]] al now).1 → Q (.tup [strV (G.join id [[97]] al now).2.1, .lit (.int .i64 (G.join id [[97]] al now).2.2.1), .lit (.int .i64 (G.join id [[97]] al now).2.2.2)]) t) :
    hBS s 1 1 [.lit (.string .empty)] [(0, (.lit (.string { data := #[97] })))] (fun x s' => HC Tryd.prog 10 [.ptr g 0, strV id, x, a, .lit (.int .i64 now)] s' Q) := by
  refine hBS_in (cs := rows strC [[97]]) rfl fun i9 h9 => ?_
  have hle : HS.le b (b.set i9 (.cells (rows strC [[97]]))) := le_set_new _ (le_refl' b) (none_of_le h.le h9)
  have hta : TArg (b.set i9 (.cells (rows strC [[97]]))) (.view i9 0 1 1 true) [[97]] := .inr ⟨.inr ⟨i9, true, rfl, set_at _ _ _, rfl⟩, by simp⟩
  refine (join10G (h.growO h9 (.cells (rows strC [[97]]))) hb hk (ha.le hle) hal hn hg id hta (by decide)).mono ?_
  rintro _ t ⟨h1, rfl⟩
  exact hQ t (h1.base hle)
/-- When i have come. -/
structure SesI (se : Int) (i : Nat) (G : GG) : Prop where
  q : Quiet G
  se : G.session = se
  rb : G.rebalance = 2
  nw : G.now = 0
  al : 0 < i → G.all = alS
  gv : G.given = i
  ids : ids G = (List.range i).map nmJ
  tps : ∀ m ∈ G.l, m.tp = [[97]]
  s2 : 2 ≤ i → G.state = 2
  ow : Ow alS G
  nm : Nm G
theorem SesI.len {se : Int} {i : Nat} (h : SesI se i G) : G.l.length = i := by
  have := congrArg List.length h.ids
  rw [ids_len, List.length_map, List.length_range] at this
  exact this
theorem ses_new (se : Int) : SesI se 0 (GG.new se 2 0 true) := ⟨quiet_new, rfl, rfl, rfl, fun h => by omega, rfl, rfl, (by rintro m ⟨⟩), fun h => by omega, ow_vac (.inl rfl), nm_new⟩
theorem ses_step {se : Int} {i : Nat} (h : SesI se i G) (hse : 0 ≤ se) (hi : i < 10) : SesI se (i + 1) (G.join [] [[97]] alS 0).1 := by
  have hR : 1 ≤ G.rebalance := by rw [h.rb]; omega
  have hS : 0 ≤ G.session := by rw [h.se]; exact hse
  have hlen := h.len
  have hqn := quiet_join (id := []) (tp := [[97]]) (al := alS) (n := 0) hR hS h.q.st
  have hnm' := (mj_join G [] [[97]] alS 0).nm h.nm
  have how := ow_join (al := alS) h.q.st h.ow [] [[97]] 0
  have hnm : G.nm [] = nmJ i := nm_at h.gv
  by_cases h0 : i = 0
  · subst h0
    have hl : G.l = [] := List.eq_nil_of_length_eq_zero (by omega)
    have hs : G.state = 1 := h.q.st.one.2 hl
    have e := join_first hl hs (tp := [[97]]) (by simp) alS (n := 0) (by rw [h.nw]; omega)
    rw [e] at hqn hnm' how ⊢
    rw [hnm] at hqn hnm' how ⊢
    exact ⟨hqn, h.se, h.rb, rfl, fun _ => rfl, by show G.given + 1 = _; rw [h.gv]; rfl, rfl, fun m hm => by rw [List.mem_singleton.1 hm], fun h' => by omega, how, hnm'⟩
  · have hne : G.l ≠ [] := fun e => by rw [e] at hlen; simp at hlen; omega
    have e := join_more h.q hR (h.al (by omega)) (n := 0) (by rw [h.nw]; omega) (by omega) hne (tp := [[97]]) (by simp)
    rw [e] at hqn hnm' how ⊢
    rw [hnm] at hqn hnm' how ⊢
    refine ⟨hqn, h.se, h.rb, h.nw, fun _ => h.al (by omega), ?_, ?_, fun m hm => ?_, fun _ => rfl, how, hnm'⟩
    · show G.given + 1 = _
      rw [h.gv]
      omega
    · rw [List.range_succ, List.map_append, ← h.ids]
      show (((if G.state = 2 then G.l else G.l.map fun m : GM => ({ m with joined := false } : GM)) ++ [_]).map GM.id) = _
      rw [List.map_append]
      congr 1
      split
      · rfl
      · rw [List.map_map]; rfl
    · rcases List.mem_append.1 hm with hm | hm
      · split at hm
        · exact h.tps m hm
        · obtain ⟨m', hm', rfl⟩ := List.mem_map.1 hm
          exact h.tps m' hm'
      · rw [List.mem_singleton.1 hm]
/-- While time goes by: one is not heard of. -/
structure Sd (se gg : Int) (M : List By) (o : Nat) (nw : Int) (i : Nat) (G : GG) : Prop where
  q : Quiet G
  se : G.session = se
  rb : G.rebalance = 2
  fw : G.now = nw ∨ G.now = nw - 1
  al : G.all = alS
  nm : Nm G
  ids : ids G = M
  tps : ∀ j, j < G.l.length → (G.l.getD j gm0).tp = [[97]]
  gen : G.gen = gg
  s4 : G.state = 4
  ho : (G.l.getD o gm0).heard = 0
  hd : ∀ j, j < G.l.length → j ≠ o → nw - 1 ≤ (G.l.getD j gm0).heard
  hi : ∀ j, j < i → j ≠ o → (G.l.getD j gm0).heard = nw
  ow : Ow alS G
theorem sd_goes {se gg : Int} {M : List By} {o : Nat} {nw : Int} {i : Nat} (h : Sd se gg M o nw i G) (h3 : 3 ≤ se) (hn : nw ≤ se) : G.goes nw = { G with now := nw } ∧ Quiet { G with now := nw } := by
  have hmax : max G.now nw = nw := by rcases h.fw with e | e <;> omega
  have hq : Quiet { G with now := max G.now nw } := by
    rw [hmax]
    refine ⟨fun m hm => ?_, fun e => ?_, ?_, ⟨h.q.st.one, h.q.st.rng⟩⟩
    · obtain ⟨j, hj, rfl⟩ := List.mem_iff_getElem.1 (show m ∈ G.l from hm)
      have hgj := getD_get gm0 G.l hj
      show ¬ G.session < nw - G.l[j].heard
      rw [h.se]
      by_cases e : j = o
      · subst e
        have := h.ho
        rw [hgj] at this
        omega
      · have := h.hd j hj e
        rw [hgj] at this
        omega
    · have : G.state = 2 := e
      have := h.s4
      omega
    · rintro ⟨e, -⟩
      have : G.state = 3 := e
      have := h.s4
      omega
  have e := goes_quiet' hq
  rw [hmax] at e hq
  exact ⟨e, hq⟩
theorem sd_beat {se gg : Int} {M : List By} {o : Nat} {nw : Int} {i : Nat} (h : Sd se gg M o nw i G) (h3 : 3 ≤ se) (hn : nw ≤ se) (hi : i < M.length) (hio : i ≠ o) : Sd se gg M o nw (i + 1) (G.heard (M.getD i []) gg nw).1 ∧ (G.heard (M.getD i []) gg nw).2 = 0 := by
  have hlen : M.length = G.l.length := by rw [← h.ids, ids_len]
  have hi' : i < G.l.length := by omega
  have hid : M.getD i [] = (G.l.getD i gm0).id := by rw [← h.ids, ids_at G hi']
  obtain ⟨e1, e2⟩ := sd_goes h h3 hn
  have hat : ({ G with now := nw } : GG).at_ (G.l.getD i gm0).id = some i := at_mem (G := { G with now := nw }) h.nm.nd hi'
  have hf : ({ G with now := nw } : GG).fenceE (G.l.getD i gm0).id gg = 0 := by unfold GG.fenceE; rw [hat]; simp only; rw [if_pos h.gen.symm]
  have how := ow_heard (al := alS) h.al h.q.st h.ow (M.getD i []) gg nw
  have hnm' := h.nm.mv (mv_heard G (M.getD i []) gg nw)
  have hqh := quiet_heard (id := M.getD i []) (gen := gg) (n := nw) (G := G) (by rw [h.rb]; omega) (by rw [h.se]; omega) h.q.st
  rw [hid] at how hnm' hqh ⊢
  have hh : G.heard (G.l.getD i gm0).id gg nw = (({ G with now := nw } : GG).updAt i fun m => { m with heard := nw }, 0) := by
    unfold GG.heard
    simp only
    rw [e1, if_pos hf, upd_at hat, if_neg (show ¬ ({ G with now := nw } : GG).state = 2 from by
      have := h.s4
      show ¬ G.state = 2
      omega)]
  rw [hh] at how hnm' hqh ⊢
  have hl := fun j (hj : j < G.l.length) => updAt_at { G with now := nw } i (fun m => { m with heard := nw }) (j := j) hj
  refine ⟨⟨hqh, h.se, h.rb, .inl rfl, h.al, hnm', ?_, fun j hj => ?_, h.gen, h.s4, ?_, fun j hj hjo => ?_, fun j hj hjo => ?_, how⟩, rfl⟩
  · rw [updAt_ids { G with now := nw } i (fun m => { m with heard := nw }) (fun m => rfl) hi']; exact h.ids
  · rw [updAt_len] at hj
    rw [hl j hj]; split
    · exact h.tps i hi'
    · exact h.tps j hj
  · by_cases ho : o < G.l.length
    · rw [hl o ho, if_neg (Ne.symm hio)]
      exact h.ho
    · rw [List.getD, List.getElem?_eq_none (by rw [updAt_len]; show G.l.length ≤ o; omega)]
      rfl
  · rw [updAt_len] at hj
    rw [hl j hj]; split
    · show nw - 1 ≤ nw; omega
    · exact h.hd j hj hjo
  · rw [hl j (by omega)]; split
    · rfl
    · exact h.hi j (by omega) hjo
theorem sd_tick {se gg : Int} {M : List By} {o : Nat} {nw : Int} (h : Sd se gg M o nw M.length G) (h3 : 3 ≤ se) (hn : nw ≤ se) : G.tick alS nw = { G with now := nw } ∧ Sd se gg M o (nw + 1) 0 { G with now := nw } := by
  have hlen : M.length = G.l.length := by rw [← h.ids, ids_len]
  obtain ⟨e1, e2⟩ := sd_goes h h3 hn
  have e0 : ({ G with all := alS } : GG) = G := by rw [← h.al]
  refine ⟨by unfold GG.tick; rw [e0, e1], e2, h.se, h.rb, .inr (by show nw = nw + 1 - 1; omega), h.al, ⟨h.nm.nd, h.nm.nm, h.nm.gv⟩, h.ids, h.tps, h.gen, h.s4, h.ho, fun j hj hjo => ?_, fun j hj => by omega, h.ow⟩
  have := h.hi j (by rw [hlen]; exact hj) hjo
  show nw + 1 - 1 ≤ (G.l.getD j gm0).heard
  omega
/-- It is out. -/
theorem sd_out {se gg : Int} {M : List By} {o : Nat} (h : Sd se gg M o (se + 1) 0 G) (hnw : G.now = se) (h3 : 3 ≤ se) (ho : o < M.length) (h2 : 2 ≤ M.length) :
    Quiet (G.tick alS (se + 1)) ∧ ids (G.tick alS (se + 1)) = M.filter (fun x => !decide (x = M.getD o [])) ∧ (G.tick alS (se + 1)).state = 2 ∧ (G.tick alS (se + 1)).gen = gg ∧ (∀ j, j < (G.tick alS (se + 1)).l.length → ((G.tick alS (se + 1)).l.getD j gm0).tp = [[97]]) ∧ (G.tick alS (se + 1)).l.length = M.length - 1 ∧ M.getD o [] ∉ ids (G.tick alS (se + 1)) := by
  have hlen : M.length = G.l.length := by rw [← h.ids, ids_len]
  have hq := quiet_tick (al := alS) (n := se + 1) (G := G) (by rw [h.rb]; omega) h.q.st
  have e0 : ({ G with all := alS } : GG) = G := by rw [← h.al]
  have hmax : max G.now (se + 1) = se + 1 := by omega
  have hido : M.getD o [] = (G.l.getD o gm0).id := by rw [← h.ids, ids_at G (by omega)]
  -- who is late
  have hlate : ∀ m ∈ G.l, decide (G.session < se + 1 - m.heard) = decide (m.id = M.getD o []) := fun m hm => by
    obtain ⟨j, hj, rfl⟩ := List.mem_iff_getElem.1 hm
    have hgj := getD_get gm0 G.l hj
    rw [decide_eq_decide, h.se]
    by_cases e : j = o
    · subst e
      have := h.ho
      rw [hgj] at this
      rw [hido, hgj]
      constructor
      · intro _; rfl
      · intro _; omega
    · have h1 := h.hd j hj e
      rw [hgj] at h1
      constructor
      · intro h2; omega
      · intro h2
        exfalso
        have a1 := at_mem h.nm.nd hj
        have a2 := at_mem h.nm.nd (k := o) (by omega)
        rw [hgj, h2, hido, a2] at a1
        exact e (Option.some.inj a1).symm
  have hfil : (({ G with now := se + 1 } : GG).outs fun m => decide (G.session < se + 1 - m.heard)) = { G with now := se + 1, l := G.l.filter fun m => !decide (m.id = M.getD o []) } := by
    unfold GG.outs
    simp only
    congr 1
    exact List.filter_congr fun m hm => by rw [hlate m hm]
  have hany : (({ G with now := se + 1 } : GG).any fun m => decide (G.session < se + 1 - m.heard)) = true := by
    unfold GG.any
    rw [List.any_eq_true]
    have hoG : o < G.l.length := by omega
    exact ⟨G.l.getD o gm0, getD_memD gm0 hoG, by rw [hlate _ (getD_memD gm0 hoG), ← hido]; simp⟩
  have hidf : (G.l.filter fun m => !decide (m.id = M.getD o [])).map GM.id = M.filter (fun x => !decide (x = M.getD o [])) := by
    rw [← h.ids]
    unfold ids
    rw [List.filter_map]
    rfl
  have hcnt : (M.filter (fun x => !decide (x = M.getD o []))).length = M.length - 1 := by
    have hnd : M.Nodup := by rw [← h.ids]; exact h.nm.nd
    have hmem : M.getD o [] ∈ M := getD_memD ([] : By) ho
    have e1 : (M.filter (fun x => !decide (x = M.getD o []))) = M.erase (M.getD o []) := by
      rw [hnd.erase_eq_filter]
      refine List.filter_congr fun x _ => ?_
      rw [Bool.eq_iff_iff]
      simp only [Bool.not_eq_true', decide_eq_false_iff_not, bne_iff_ne, ne_eq]
    rw [e1, List.length_erase_of_mem hmem]
  have hne : (G.l.filter fun m => !decide (m.id = M.getD o [])) ≠ [] := fun e => by
    have := congrArg List.length hidf
    rw [List.length_map, e, hcnt] at this
    simp only [List.length_nil] at this
    omega
  have htick : G.tick alS (se + 1) = { G with now := se + 1, state := 2, since := se + 1, l := (G.l.filter fun m => !decide (m.id = M.getD o [])).map unj } := by
    unfold GG.tick
    rw [e0]
    unfold GG.goes
    rw [hmax]
    have hg1 : ({ G with now := se + 1 } : GG).goes1 = { G with now := se + 1, state := 2, since := se + 1, l := (G.l.filter fun m => !decide (m.id = M.getD o [])).map unj } := by
      unfold GG.goes1
      simp only
      rw [hany, hfil]
      have hs4 := h.s4
      have hp : ({ G with now := se + 1, l := G.l.filter fun m => !decide (m.id = M.getD o []) } : GG).prepares = { G with now := se + 1, state := 2, since := se + 1, l := (G.l.filter fun m => !decide (m.id = M.getD o [])).map unj } := by
        unfold GG.prepares
        rw [if_neg hne]
        rfl
      have hH4 : ({ G with now := se + 1, l := G.l.filter fun m => !decide (m.id = M.getD o []) } : GG).state = 4 := hs4
      generalize ({ G with now := se + 1, l := G.l.filter fun m => !decide (m.id = M.getD o []) } : GG) = H at *
      have hcond : (if (true && !decide (H.state = 2)) = true then H.prepares else H) = H.prepares := by
        rw [if_pos]
        rw [hH4]
        rfl
      rw [hcond, hp, if_neg (fun hh => hne (List.map_eq_nil_iff.1 hh.2))]
      unfold GG.forms
      rw [if_neg]
      rintro ⟨-, hh⟩
      rw [over0 (by show 1 ≤ G.rebalance; rw [h.rb]; omega) rfl, Bool.or_false, List.all_map] at hh
      cases hl : (G.l.filter fun m => !decide (m.id = M.getD o [])) with
      | nil => exact hne hl
      | cons m r => rw [hl] at hh; simp [unj] at hh
    rw [hg1]
    unfold GG.goes2
    rw [if_neg (fun hh => absurd (show (2 : Int) = 3 from hh.1) (by decide))]
  have hids : ids (G.tick alS (se + 1)) = M.filter (fun x => !decide (x = M.getD o [])) := by
    rw [htick, ← hidf]
    unfold ids
    show ((G.l.filter _).map unj).map GM.id = _
    rw [List.map_map]
    rfl
  refine ⟨hq, hids, by rw [htick], by rw [htick]; exact h.gen, fun j hj => ?_, by rw [← ids_len, hids, hcnt], by rw [hids]; simp⟩
  rw [htick] at hj ⊢
  have hj' : j < (G.l.filter fun m => !decide (m.id = M.getD o [])).length := by
    have : j < ((G.l.filter fun m => !decide (m.id = M.getD o [])).map unj).length := hj
    rw [List.length_map] at this
    exact this
  show (((G.l.filter fun m => !decide (m.id = M.getD o [])).map unj).getD j gm0).tp = _
  rw [map_at unj _ hj']
  have hm := (List.mem_filter.1 (getD_memD gm0 hj')).1
  obtain ⟨i, hi, e⟩ := List.mem_iff_getElem.1 hm
  have := h.tps i hi
  rw [getD_get _ _ hi, e] at this
  exact this
end
end Go.Proofs.YtkcgokkgefgcjaaDoor.AS
end
section
namespace Go.Proofs.YtkcgokkgefgcjaaDoor.AS
open Go.Proofs.YtkcgokkgefgcjaaDoor.H Go.Proofs.YtkcgokkgefgcjaaDoor.G0
set_option linter.unusedVariables false
set_option linter.unusedSimpArgs false
set_option maxRecDepth 100000
section
variable {b s : HS} {g : Nat} {G : GG}
theorem sum_takeS {α : Type} (f : α → Nat) (z : α) (l : List α) {k : Nat} (hk : k < l.length) : ((l.take (k + 1)).map f).sum = ((l.take k).map f).sum + f (l.getD k z) := by
  rw [take_succ' z l hk, List.map_append, List.sum_append]
  simp
structure KeS (se n : Int) (G : GG) : Prop where
  se : G.session = se
  rb : G.rebalance = 2
  nw : G.now = n
  ow : Ow alS G
  gv : 0 ≤ G.given ∧ G.given < 99
theorem kes_mv {se n : Int} {G' : GG} (h : KeS se n G) (hm : Mv G G') (hn : G'.now = G.now) (ho : Ow alS G') : KeS se n G' :=
  ⟨hm.se.trans h.se, hm.rb.trans h.rb, hn.trans h.nw, ho, by rw [hm.gv]; exact h.gv⟩
/-- One of those that come again. -/
theorem again1 {se n g0 g1 : Int} {M : List By} {k K : Nat} {a : HV} (hG : IsG b s g G) (hk : KeS se n G) (hse : 0 ≤ se) (ht : TI [[97]] alS g0 g1 M k G) (hb : Bd K G) (hK : K + 3 ≤ 1000000) (ha : AR b a alS) (hn : n ≤ 1125899906842624) (hkl : k < M.length) {Q : HV → HS → Prop}
    (hQ : ∀ v t G', IsG b t g G' → KeS se n G' → TI [[97]] alS g0 g1 M (k + 1) G' → Bd (K + 3) G' → Q v t) :
    hBS s 1 1 [.lit (.string .empty)] [(0, (.lit (.string { data := #[97] })))] (fun x s' => HC Tryd.prog 10 [.ptr g 0, strV (M.getD k []), x, a, .lit (.int .i64 n)] s' Q) := by
  have hlen1 : M.length = G.l.length := by rw [← ht.ids, ids_len]
  have hid : M.getD k [] = (G.l.getD k gm0).id := by rw [← ht.ids, ids_at G (by omega)]
  have hR1 : 1 ≤ G.rebalance := by rw [hk.rb]; omega
  have hS1 : 0 ≤ G.session := by rw [hk.se]; exact hse
  obtain ⟨q1, q2⟩ := ti_step ht hR1 hS1 (by decide) hkl
  have q4 := mv_known (tp := [[97]]) ht.q ht.al (Int.le_refl _) ht.nm (by decide) (show k < G.l.length by omega)
  rw [← hid] at q4
  have hke2 := kes_mv hk q4 q2 (ow_join ht.q.st hk.ow _ _ _)
  rw [hk.nw] at q1 hke2
  refine joinA hG hb hK ha (by decide) hn hk.gv (M.getD k []) fun t h1 => hQ _ t _ h1 hke2 q1 ?_
  exact hb.join (id := M.getD k []) (tp := [[97]]) (al := alS) (now := n) hK (by decide) (by decide) hn
theorem sessions_law (n se lost : Int) (s : HS) : HC Tryd.prog 3 [.lit (.int .i64 n), .lit (.int .i64 se), .lit (.int .i64 lost)] s (fun v _ => v = .lit (.bool true)) := by
  refine HC3 ?_
  unfold c3
  refine Join.of (fun xs t => t = s ∧ xs = [.lit (.bool (decide (n < 2 ∨ 10 < n ∨ se < 3 ∨ 50 < se)))]) ?_ ?_
  rotate_left
  · intro K1 hK1
    simp only [lss_n, gtr_n, bindO]
    by_cases h1 : n < 2
    · simp only [h1, decide_true, hcond]
      exact hK1 _ _ ⟨rfl, by simp [h1]⟩
    · simp only [h1, decide_false, hcond]
      by_cases h2 : 10 < n
      · simp only [h2, decide_true]
        exact hK1 _ _ ⟨rfl, by simp [h2]⟩
      · simp only [h2, decide_false]
        by_cases h3 : se < 3
        · simp only [h3, decide_true]
          exact hK1 _ _ ⟨rfl, by simp [h3]⟩
        · simp only [h3, decide_false]
          exact hK1 _ _ ⟨rfl, by simp [h1, h2, h3]⟩
  rintro _ t ⟨rfl, rfl⟩
  simp only [List.headD_cons]
  by_cases hbad : n < 2 ∨ 10 < n ∨ se < 3 ∨ 50 < se
  · simp only [hbad, decide_true, hcond]
    exact awake8 t
  simp only [hbad, decide_false, hcond]
  obtain ⟨N, rfl⟩ : ∃ N : Nat, n = (N : Int) := ⟨n.toNat, by omega⟩
  obtain ⟨SE, rfl⟩ : ∃ SE : Nat, se = (SE : Int) := ⟨se.toNat, by omega⟩
  have hN : 2 ≤ N ∧ N ≤ 10 := by omega
  have hSE : 3 ≤ SE ∧ SE ≤ 50 := by omega
  clear hbad
  refine (new9 (session := (SE : Int)) (rebalance := 2) (gen := 0) (round := true) (by omega) (by omega) (by omega) t).mono ?_
  rintro _ t1 ⟨g, hg, rfl, h0⟩
  simp only [vExtract, List.getElem?_cons_succ, List.getElem?_cons_zero, bindO]
  refine Join.of (fun xs u => u = t1 ∧ xs = [.lit (.bool false)]) ?_ ?_
  rotate_left
  · intro K12 hK12
    simp only [neq_24, eqp23, decide_true, Bool.not_true, hcond]
    exact hK12 _ _ ⟨rfl, rfl⟩
  rintro _ u ⟨rfl, rfl⟩
  simp only [List.headD_cons, hcond]
  rw [show vMk [(0, 1), (1, 1)] [.lit (.string .empty), .lit (.int .i64 0)] [(0, (.lit (.string { data := #[97] }))), (1, (.lit (.int .i64 12)))] = some (.agg (topC ⟨[97], 12⟩)) from rfl]
  simp only
  refine hBS_in (cs := rows topC alS) rfl fun i9 h9 => ?_
  have ha : AR (t.set i9 (.cells (rows topC alS))) (.view i9 0 2 1 true) alS := .inr (.inr ⟨i9, true, rfl, set_at _ _ _, rfl⟩)
  have h1 := h0.growO h9 (.cells (rows topC alS))
  generalize t.set i9 (.cells (rows topC alS)) = b0 at *
  generalize u.set i9 (.cells (rows topC alS)) = u2 at *
  generalize HV.view i9 0 2 1 true = a at *
  have hb0 := Bd.new (session := (SE : Int)) (rebalance := 2) (gen := 0) (round := true) (by omega)
  -- they come
  refine HLoop.ghost (σ := Nat) (fun i => [.lit (.int .i64 (i : Int))]) (fun i w => i ≤ N ∧ ∃ G, IsG b0 w g G ∧ SesI SE i G ∧ Bd (3 * i) G) (fun i => N - i) 0 rfl ⟨Nat.zero_le _, _, h1, ses_new SE, hb0⟩ ?_
  rintro i w K ⟨hi, G, hG, hI, hb⟩ hK
  simp only [List.headD_cons, lss_i]
  by_cases hlt : i < N
  · simp only [hlt, decide_true]
    rw [show (HV.lit (.string { data := #[] })) = strV [] from rfl]
    have hgv := hI.gv
    refine joinA hG hb (by omega) ha (by decide) (by omega) ⟨by omega, by omega⟩ [] fun t3 h3 => ?_
    simp only [inc_i hlt (by omega)]
    exact hK (i + 1) _ _ rfl ⟨hlt, _, h3, ses_step hI (by omega) (by omega), hb.join (by omega) (by decide) (by decide) (by omega)⟩ (by omega)
  · obtain rfl : i = N := by omega
    simp only [hlt, decide_false]
    clear hK hlt hi
    have hgvI := hI.gv
    have hkeI : KeS SE 0 G := ⟨hI.se, hI.rb, hI.nw, hI.ow, by rw [hgvI]; omega⟩
    have hMl : (ids G).length = i := by rw [ids_len]; exact hI.len
    have htpsI : ∀ j, j < G.l.length → (G.l.getD j gm0).tp = [[97]] := fun j hj => hI.tps _ (getD_memD gm0 hj)
    have hnmI := hI.nm
    generalize hM : ids G = M at *
    have lm : ∀ u, vLenT (Tryd.prog.underlying 32) u (rowL strC 1 M) = some (.lit (.int .i64 ((M.length : Nat) : Int))) := fun u => rfl
    have im := fun k (hk : k < M.length) => idx_rowL strC_len ([] : By) M .i64 hk
    have l0 : ∀ (u : HS) (y : By), vLoad u (.elt (strC y) 0) 1 false = some (strV y) := fun u y => rfl
    refine HLoop.ghost (σ := Nat) (fun k => [.lit (.int .i64 (k : Int))]) (fun kk w => kk ≤ 2 ∧ ∃ G, IsG b0 w g G ∧ KeS SE 0 G ∧ Quiet G ∧ G.all = alS ∧ Nm G ∧ ids G = M ∧ (∀ j, j < G.l.length → (G.l.getD j gm0).tp = [[97]]) ∧ (kk = 0 → G.state = 2) ∧ (1 ≤ kk → TI [[97]] alS G.gen G.gen M M.length G) ∧ Bd (30 + 100 * kk) G) (fun k => 2 - k) 0 rfl
      ⟨by omega, G, hG, hkeI, hI.q, hI.al (by omega), hnmI, hM, htpsI, fun _ => hI.s2 (by omega), fun h => by omega, hb.mono (by omega) (by omega)⟩ ?_
    rintro kk w1 K ⟨hkk, G1, hG1, hke1, hq1, hal1, hnm1, hM1, htp1, hs1, hti1, hb1⟩ hK
    simp only [List.headD_cons]
    rw [show vBin .lss (.lit (.int .i64 (kk : Int))) (.lit (.int .i64 2)) = some (.lit (.bool (decide (kk < 2)))) from lss_i kk 2]
    by_cases hk2 : kk < 2
    · simp only [hk2, decide_true]
      refine (members11 hG1 hb1).mono ?_
      rintro _ w2 ⟨rfl, rfl⟩
      rw [hM1]
      obtain ⟨g0, g1, hti⟩ : ∃ g0 g1, TI [[97]] alS g0 g1 M 0 G1 := by
        by_cases e2 : G1.state = 2
        · exact ⟨G1.gen, G1.gen + 1, ⟨hq1, hal1, hnm1, hM1, htp1, fun j hj => by omega, .inl ⟨e2, rfl, rfl, fun j hj => by omega⟩⟩⟩
        · refine ⟨G1.gen, G1.gen, ⟨hq1, hal1, hnm1, hM1, htp1, fun j hj => by omega, .inr ⟨?_, rfl⟩⟩⟩
          by_cases e : kk = 0
          · exact absurd (hs1 e) e2
          · exact (ti_end (hti1 (by omega))).1
      refine HLoop.ghost (σ := Nat) (fun k => [.lit (.int .i64 (k : Int))]) (fun k v => k ≤ M.length ∧ ∃ G, IsG b0 v g G ∧ KeS SE 0 G ∧ TI [[97]] alS g0 g1 M k G ∧ Bd (30 + 100 * kk + 3 * k) G) (fun k => M.length - k) 0 rfl ⟨Nat.zero_le _, G1, hG1, hke1, hti, hb1⟩ ?_
      rintro k v Kc ⟨hk1, G2, hG2, hke2, ht2, hb2⟩ hKc
      simp only [List.headD_cons, lm, lss_i]
      by_cases hkl : k < M.length
      · simp only [hkl, decide_true, im k hkl, l0]
        refine again1 hG2 hke2 (by omega) ht2 hb2 (by omega) ha (by omega) hkl fun _ t G' z1 z2 z3 z4 => ?_
        simp only [inc_i hkl (by omega)]
        exact hKc (k + 1) _ _ rfl ⟨hkl, G', z1, z2, z3, z4⟩ (by omega)
      · obtain rfl : k = M.length := by omega
        simp only [hkl, decide_false]
        rw [show vBin .add (.lit (.int .i64 (kk : Int))) (.lit (.int .i64 1)) = some (.lit (.int .i64 ((kk + 1 : Nat) : Int))) from add_i (a := kk) (b := 1) (by omega)]
        simp only
        refine hK (kk + 1) _ _ rfl ⟨hk2, G2, hG2, hke2, ht2.q, ht2.al, ht2.nm, ht2.ids, ht2.tps, fun h => by omega, fun _ => ?_, hb2.mono (by omega) (by omega)⟩ (by omega)
        obtain ⟨e1, e2⟩ := ti_end ht2
        exact ⟨ht2.q, ht2.al, ht2.nm, ht2.ids, ht2.tps, ht2.hd, .inr ⟨e1, rfl⟩⟩
    · obtain rfl : kk = 2 := by omega
      simp only [hk2, decide_false]
      clear hK hk2 hs1 hkk
      have hti1 := hti1 (by omega)
      refine (members11 hG1 hb1).mono ?_
      rintro _ w2 ⟨rfl, rfl⟩
      rw [hM1]
      simp only [lm, neq_i3]
      rw [show decide (((M.length : Nat) : Int) = (i : Int)) = true from by rw [decide_eq_true_eq]; omega]
      simp only [Bool.not_true]
      have hsi0 := si_start hti1 (by omega)
      obtain ⟨gg, hgg⟩ : ∃ gg, G1.gen = gg := ⟨_, rfl⟩
      rw [hgg] at hsi0
      clear hti1
      -- all sync
      refine HLoop.ghost (σ := Nat) (fun k => [.lit (.int .i64 (k : Int))]) (fun k v => k ≤ M.length ∧ ∃ G, IsG b0 v g G ∧ KeS SE 0 G ∧ SI True [[97]] alS gg M k G ∧ Bd (230 + k) G) (fun k => M.length - k) 0 rfl ⟨Nat.zero_le _, G1, hG1, hke1, hsi0, hb1⟩ ?_
      rintro k v Kc ⟨hk1, G2, hG2, hke2, hs2, hb2⟩ hKc
      simp only [List.headD_cons]
      rw [show vBin .lss (.lit (.int .i64 (k : Int))) (.lit (.int .i64 (i : Int))) = some (.lit (.bool (decide (k < M.length)))) from by rw [lss_i, hMl]]
      by_cases hkl : k < M.length
      · simp only [hkl, decide_true, im k hkl, l0]
        refine (gen13 hG2).mono ?_
        rintro _ v3 ⟨rfl, rfl⟩
        refine ⟨by trivial, ?_⟩
        rw [hs2.gen]
        refine (sync12 hG2 hb2 (by omega) (M.getD k []) gg (now := 0) (by omega)).mono ?_
        rintro _ v4 ⟨h4, -⟩
        have hb3 := hb2.sync (id := M.getD k []) (gen := gg) (now := 0) (by omega) (by omega)
        obtain ⟨r1, -, -, -, r5⟩ := si_step hs2 (by rw [hke2.rb]; omega) (by rw [hke2.se]; omega) hkl
        rw [hke2.nw] at r1 r5
        simp only [inc_i hkl (by omega)]
        exact hKc (k + 1) _ _ rfl ⟨hkl, _, h4, kes_mv hke2 (mv_sync _ _ _ _) (by rw [r5, hke2.nw]) (ow_sync hs2.al hs2.q.st hke2.ow _ _ _), r1, hb3⟩ (by omega)
      · obtain rfl : k = M.length := by omega
        simp only [hkl, decide_false]
        clear hKc
        have hs4 := si_end hs2
        refine (state14 hG2).mono ?_
        rintro _ v3 ⟨rfl, rfl⟩
        rw [hs4]
        simp only [neq_i3, decide_true, Bool.not_true]
        refine (gen13 hG2).mono ?_
        rintro _ v4 ⟨rfl, rfl⟩
        rw [hs2.gen]
        refine (round9 (k := lost) (n := i) (by omega) (by omega) v4).mono ?_
        rintro _ v5 ⟨rfl, rfl⟩
        have ho : (lost % (i : Int)).toNat < M.length := by
          have := Int.emod_lt_of_pos lost (show (0 : Int) < (i : Int) by omega)
          have := Int.emod_nonneg lost (show (i : Int) ≠ 0 by omega)
          omega
        generalize (lost % (i : Int)).toNat = o at *
        simp only [im o ho, l0]
        have hMnd : M.Nodup := by rw [← hM]; exact hnmI.nd
        have hlen2 : M.length = G2.l.length := by rw [← hs2.ids, ids_len]
        have hsd : Sd SE gg M o ((0 + 1 : Nat) : Int) 0 G2 := by
          have hnw := hke2.nw
          refine ⟨hs2.q, hke2.se, hke2.rb, .inr (by rw [hnw]; rfl), hs2.al, hs2.nm, hs2.ids, hs2.tps, hs2.gen, hs4, ?_, fun j hj _ => ?_, fun j hj => by omega, hke2.ow⟩
          · rw [hs2.hd trivial o (by omega), hnw]
          · rw [hs2.hd trivial j hj, hnw]
            show ((0 + 1 : Nat) : Int) - 1 ≤ 0
            omega
        have hgvs := hke2.gv
        have hnw2 := hke2.nw
        clear hs2 hke2 hsi0
        -- time goes by
        refine HLoop.ghost (σ := Nat) (fun m => [.lit (.int .i64 ((m + 1 : Nat) : Int))]) (fun m v => m ≤ SE ∧ ∃ G, IsG b0 v g G ∧ Sd SE gg M o ((m + 1 : Nat) : Int) 0 G ∧ G.now = m ∧ (0 ≤ G.given ∧ G.given < 99) ∧ Bd (300 + 20 * m) G) (fun m => SE - m) 0 rfl ⟨Nat.zero_le _, G2, hG2, hsd, by rw [hnw2]; rfl, hgvs, hb2.mono (by omega) (by omega)⟩ ?_
        rintro m v6 Kc ⟨hm, G3, hG3, hsd3, hnw3, hgv3, hb3⟩ hKc
        simp only [List.headD_cons, leq_i]
        by_cases hml : m + 1 ≤ SE
        · simp only [hml, decide_true]
          refine HLoop.ghost (σ := Nat) (fun k => [.lit (.int .i64 (k : Int))]) (fun k v => k ≤ M.length ∧ ∃ G, IsG b0 v g G ∧ Sd SE gg M o ((m + 1 : Nat) : Int) k G ∧ (0 ≤ G.given ∧ G.given < 99) ∧ Bd (300 + 20 * m + k) G) (fun k => M.length - k) 0 rfl ⟨Nat.zero_le _, G3, hG3, hsd3, hgv3, hb3⟩ ?_
          rintro k v7 K4 ⟨hk, G4, hG4, hsd4, hgv4, hb4⟩ hK4
          simp only [List.headD_cons]
          rw [show vBin .lss (.lit (.int .i64 (k : Int))) (.lit (.int .i64 (i : Int))) = some (.lit (.bool (decide (k < M.length)))) from by rw [lss_i, hMl]]
          by_cases hkl : k < M.length
          · simp only [hkl, decide_true]
            refine Join.of (fun xs v8 => xs = [.lit (.bool false)] ∧ ∃ G, IsG b0 v8 g G ∧ Sd SE gg M o ((m + 1 : Nat) : Int) (k + 1) G ∧ (0 ≤ G.given ∧ G.given < 99) ∧ Bd (300 + 20 * m + (k + 1)) G) ?_ ?_
            · rintro _ v8 ⟨rfl, G5, z1, z2, z3, z4⟩
              simp only [List.headD_cons, inc_i hkl (by omega)]
              exact hK4 (k + 1) _ _ rfl ⟨hkl, G5, z1, z2, z3, z4⟩ (by omega)
            · intro K82 hK82
              simp only [im k hkl, l0, neq_s]
              by_cases hko : k = o
              · subst hko
                simp only [decide_true, Bool.not_true]
                exact hK82 _ _ ⟨rfl, G4, hG4, ⟨hsd4.q, hsd4.se, hsd4.rb, hsd4.fw, hsd4.al, hsd4.nm, hsd4.ids, hsd4.tps, hsd4.gen, hsd4.s4, hsd4.ho, hsd4.hd, fun j hj hjo => hsd4.hi j (by omega) hjo, hsd4.ow⟩, hgv4, hb4.mono (by omega) (by omega)⟩
              · have hne : M.getD k [] ≠ M.getD o [] := fun e => by
                  rw [getD_get _ _ hkl, getD_get _ _ ho] at e
                  exact hko ((List.getElem_inj hMnd).1 e)
                simp only [hne, decide_false, Bool.not_false, im k hkl, l0]
                refine (beat16 hG4 hb4 (by omega) (M.getD k []) gg (now := ((m + 1 : Nat) : Int)) (by omega)).mono ?_
                rintro _ v8 ⟨h8, rfl⟩
                have hb5 := hb4.heard (id := M.getD k []) (gen := gg) (now := ((m + 1 : Nat) : Int)) (by omega) (by omega)
                obtain ⟨r1, r2⟩ := sd_beat hsd4 (by omega) (by omega) hkl hko
                rw [r2]
                simp only [neq_24, decide_true, Bool.not_true]
                exact hK82 _ _ ⟨rfl, _, h8, r1, by rw [(mv_heard G4 _ _ _).gv]; exact hgv4, hb5⟩
          · obtain rfl : k = M.length := by omega
            simp only [hkl, decide_false]
            refine (tickIG hG4 hb4 (by omega) ha (by decide) (now := ((m + 1 : Nat) : Int)) (by omega)).mono ?_
            rintro _ v8 h8
            have hb5 := hb4.tick (al := alS) (now := ((m + 1 : Nat) : Int)) (by omega) (by decide) (by omega)
            obtain ⟨r1, r2⟩ := sd_tick hsd4 (by omega) (by omega)
            rw [r1] at h8 hb5
            refine Join.of (fun xs v9 => v9 = v8 ∧ xs = [.lit (.bool false)]) ?_ ?_
            · rintro _ v9 ⟨rfl, rfl⟩
              simp only [List.headD_cons]
              rw [show vBin .add (.lit (.int .i64 ((m + 1 : Nat) : Int))) (.lit (.int .i64 1)) = some (.lit (.int .i64 ((m + 1 + 1 : Nat) : Int))) from add_i (a := m + 1) (b := 1) (by omega)]
              simp only
              exact hKc (m + 1) _ _ rfl ⟨hml, _, h8, r2, rfl, hgv4, hb5.mono (by omega) (by omega)⟩ (by omega)
            · intro K96 hK96
              refine (members11 h8 hb5).mono ?_
              rintro _ v9 ⟨rfl, rfl⟩
              rw [r2.ids]
              simp only [lm, neq_i3]
              rw [show decide (((M.length : Nat) : Int) = (i : Int)) = true from by rw [decide_eq_true_eq]; omega]
              simp only [Bool.not_true]
              refine (state14 h8).mono ?_
              rintro _ v10 ⟨rfl, rfl⟩
              rw [r2.s4]
              simp only [neq_i3, decide_true, Bool.not_true]
              exact hK96 _ _ ⟨rfl, rfl⟩
        · obtain rfl : m = SE := by omega
          simp only [hml, decide_false]
          clear hKc hml
          have hadd : vBin .add (.lit (.int .i64 (m : Int))) (.lit (.int .i64 1)) = some (.lit (.int .i64 ((m : Int) + 1))) := add_n (by omega) (by omega)
          have hc1 : ((m + 1 : Nat) : Int) = (m : Int) + 1 := by omega
          rw [hc1] at hsd3
          obtain ⟨o1, o2, o3, o4, o5, o6, o7⟩ := sd_out hsd3 hnw3 (by omega) ho (by omega)
          have hb4 := hb3.tick (al := alS) (now := (m : Int) + 1) (by omega) (by decide) (by omega)
          have hmt := mv_tick G3 alS ((m : Int) + 1)
          have hke4 : KeS m ((m : Int) + 1) (G3.tick alS ((m : Int) + 1)) := ⟨hmt.se.trans hsd3.se, hmt.rb.trans hsd3.rb, by rw [now_tick, hnw3]; omega, ow_tick hsd3.q.st hsd3.ow _, by rw [hmt.gv]; exact hgv3⟩
          have hal4 : (G3.tick alS ((m : Int) + 1)).all = alS := goes_all _ _
          have hnm4 := hsd3.nm.mv hmt
          have hggb : 0 ≤ gg ∧ gg ≤ 2199023255552 + 1000000 := by
            have e1 := hsd3.gen
            have e2 := hb3.gen
            omega
          simp only [hadd]
          refine (tickIG hG3 hb3 (by omega) ha (by decide) (now := (m : Int) + 1) (by omega)).mono ?_
          rintro _ v7 h7
          generalize G3.tick alS ((m : Int) + 1) = G4 at *
          clear hmt hsd3 hG3 hb3 hsd
          have hM4l : (ids G4).length = M.length - 1 := by rw [ids_len]; exact o6
          have hti4 : TI [[97]] alS gg (gg + 1) (ids G4) 0 G4 := ⟨o1, hal4, hnm4, rfl, o5, fun j hj => by omega, .inl ⟨o3, o4, rfl, fun j hj => by omega⟩⟩
          refine Join.of (fun xs u => IsG b0 u g G4 ∧ xs = [.lit (.bool false)]) ?_ ?_
          rotate_left
          · intro K110 hK110
            refine (members11 h7 hb4).mono ?_
            rintro _ v8 ⟨rfl, rfl⟩
            refine (has16 (some (ids G4)) (M.getD o []) v8 (by rw [Option.getD_some]; omega)).mono ?_
            rintro _ v9 ⟨rfl, rfl⟩
            simp only [Option.getD_some, o7, decide_false]
            refine (members11 h7 hb4).mono ?_
            rintro _ v10 ⟨rfl, rfl⟩
            rw [show vLenT (Tryd.prog.underlying 32) v10 (rowL strC 1 (ids G4)) = some (.lit (.int .i64 (((ids G4).length : Nat) : Int))) from rfl]
            simp only
            rw [sub_n (a := (i : Int)) (b := 1) (by omega) (by omega)]
            simp only [neq_i3]
            rw [show decide ((((ids G4).length : Nat) : Int) = (i : Int) - 1) = true from by rw [decide_eq_true_eq]; omega]
            simp only [Bool.not_true]
            refine (state14 h7).mono ?_
            rintro _ v11 ⟨rfl, rfl⟩
            rw [o3]
            simp only [neq_i3, decide_true, Bool.not_true, hadd]
            refine (beat16 h7 hb4 (by omega) (M.getD o []) gg (now := (m : Int) + 1) (by omega)).mono ?_
            rintro _ v12 ⟨h12, rfl⟩
            have hh : G4.heard (M.getD o []) gg ((m : Int) + 1) = (G4, 13) := by
              unfold GG.heard
              simp only
              rw [goes_quiet o1 (by rw [hke4.nw]; exact Int.le_refl _)]
              have hf : G4.fenceE (M.getD o []) gg = 13 := by rw [fenceE_eq, if_neg o7]
              rw [hf, if_neg (by omega)]
            rw [hh] at h12 ⊢
            simp only [neq_24, decide_true, Bool.not_true]
            exact hK110 _ _ ⟨h12, rfl⟩
          rintro _ v8 ⟨h8, rfl⟩
          simp only [List.headD_cons]
          refine (members11 h8 hb4).mono ?_
          rintro _ v9 ⟨rfl, rfl⟩
          clear h7 o2 o5 o6 o7 im lm
          generalize ids G4 = M4 at *
          have lm : ∀ u, vLenT (Tryd.prog.underlying 32) u (rowL strC 1 M4) = some (.lit (.int .i64 ((M4.length : Nat) : Int))) := fun u => rfl
          have im := fun k (hk : k < M4.length) => idx_rowL strC_len ([] : By) M4 .i64 hk
          -- they come again
          refine HLoop.ghost (σ := Nat) (fun k => [.lit (.int .i64 (k : Int))]) (fun k v => k ≤ M4.length ∧ ∃ G, IsG b0 v g G ∧ KeS m ((m : Int) + 1) G ∧ TI [[97]] alS gg (gg + 1) M4 k G ∧ Bd (1400 + 3 * k) G) (fun k => M4.length - k) 0 rfl ⟨Nat.zero_le _, G4, h8, hke4, hti4, hb4.mono (by omega) (by omega)⟩ ?_
          rintro k v10 Kc ⟨hk, G5, hG5, hke5, ht5, hb5⟩ hKc
          simp only [List.headD_cons, lm, lss_i]
          by_cases hkl : k < M4.length
          · simp only [hkl, decide_true, im k hkl, l0, hadd]
            refine again1 hG5 hke5 (by omega) ht5 hb5 (by omega) ha (by omega) hkl fun _ t G' z1 z2 z3 z4 => ?_
            simp only [inc_i hkl (by omega)]
            exact hKc (k + 1) _ _ rfl ⟨hkl, G', z1, z2, z3, z4⟩ (by omega)
          · obtain rfl : k = M4.length := by omega
            simp only [hkl, decide_false]
            clear hKc hkl hk
            have hsi5 := si_start ht5 (by omega)
            obtain ⟨e34, -⟩ := ti_end ht5
            have hlen5 : M4.length = G5.l.length := by rw [← ht5.ids, ids_len]
            have hne5 : G5.l ≠ [] := fun e => by rw [e] at hlen5; simp at hlen5; rw [hlen5] at hM4l; simp at hM4l; omega
            have hsum := sum_ow (G := G5) (tp := [[97]]) hke5.ow e34 (by rw [ht5.ids]; have := ht5.nm.nd; rw [ht5.ids] at this; exact this) ht5.tps hne5 ⟨by decide, (show ([[97]] : List By).Nodup from by decide)⟩ (by decide)
            rw [ht5.ids] at hsum
            have hle : ∀ id, (ofD G5.shares id).length ≤ 12 := fun id => by
              rw [hke5.ow e34]
              exact ofD_le _ _ alS id
            generalize hsh : G5.shares = D at *
            have hgadd : vBin .add (.lit (.int .i64 gg)) (.lit (.int .i64 1)) = some (.lit (.int .i64 (gg + 1))) := add_n (by omega) (by omega)
            refine HLoop.ghost (σ := Nat) (fun k => [.lit (.int .i64 ((((M4.take k).map fun id => (ofD D id).length).sum : Nat) : Int)), .lit (.int .i64 (k : Int))]) (fun k v => k ≤ M4.length ∧ ((M4.take k).map fun id => (ofD D id).length).sum ≤ 12 * k ∧ ∃ G, IsG b0 v g G ∧ G.now = (m : Int) + 1 ∧ G.session = m ∧ G.rebalance = 2 ∧ G.shares = D ∧ SI True [[97]] alS (gg + 1) M4 k G ∧ Bd (1500 + k) G) (fun k => M4.length - k) 0 rfl ⟨Nat.zero_le _, Nat.zero_le _, G5, hG5, hke5.nw, hke5.se, hke5.rb, hsh, hsi5, hb5.mono (by omega) (by omega)⟩ ?_
            rintro k v11 K2 ⟨hk, hs12, G6, hG6, y1, y2, y3, y4, y5, y6⟩ hK2
            simp only [List.headD_cons, List.tail_cons, lm, lss_i]
            by_cases hkl : k < M4.length
            · simp only [hkl, decide_true, im k hkl, l0, hgadd, hadd]
              refine (sync12 hG6 y6 (by omega) (M4.getD k []) (gg + 1) (now := (m : Int) + 1) (by omega)).mono ?_
              rintro _ v12 ⟨h12, o', rfl, ho'⟩
              have hb7 := y6.sync (id := M4.getD k []) (gen := gg + 1) (now := (m : Int) + 1) (by omega) (by omega)
              obtain ⟨r1, r2, r3, r4, r5⟩ := si_step y5 (by rw [y3]; omega) (by rw [y2]; omega) hkl
              have hm := mv_sync G6 (M4.getD k []) (gg + 1) ((m : Int) + 1)
              rw [y1] at r1 r2 r3 r4 r5
              rw [r2]
              rw [r3] at ho'
              simp only [vExtract, List.getElem?_cons_succ, List.getElem?_cons_zero, neq_24, decide_true, Bool.not_true]
              rw [show vLenT (Tryd.prog.underlying 34) v12 (rowV slC 2 o') = some (.lit (.int .i64 (((o'.getD []).length : Nat) : Int))) from len_rowV o' v12]
              rw [ho', y4]
              have hl12 := hle (M4.getD k [])
              simp only
              rw [show vBin .add (.lit (.int .i64 ((((M4.take k).map fun id => (ofD D id).length).sum : Nat) : Int))) (.lit (.int .i64 (((ofD D (M4.getD k [])).length : Nat) : Int))) = some (.lit (.int .i64 ((((M4.take (k + 1)).map fun id => (ofD D id).length).sum : Nat) : Int))) from by
                rw [sum_takeS _ ([] : By) M4 hkl]
                exact add_i (by omega)]
              simp only [inc_i hkl (by omega)]
              exact hK2 (k + 1) _ _ rfl ⟨hkl, by rw [sum_takeS _ ([] : By) M4 hkl]; omega, _, h12, r5, hm.se.trans y2, hm.rb.trans y3, r4.trans y4, r1, hb7⟩ (by omega)
            · obtain rfl : k = M4.length := by omega
              simp only [hkl, decide_false]
              rw [List.take_length, hsum]
              rw [show (((alS.map fun t => t.parts.toNat).sum : Nat) : Int) = 12 from by decide]
              simp only [eql_n, decide_true]
              refine (gen13 hG6).mono ?_
              rintro _ v12 ⟨rfl, rfl⟩
              rw [y5.gen]
              simp only [hgadd, eql_n, decide_true]
              refine (state14 hG6).mono ?_
              rintro _ v13 ⟨rfl, rfl⟩
              rw [si_end y5]
              simp only [eql_n, decide_true]
              rw [show vPick (.lit (.bool true)) (.lit (.bool true)) (.lit (.bool false)) = some (.lit (.bool true)) from rfl]
              simp only
              exact awake8 v13
end
end Go.Proofs.YtkcgokkgefgcjaaDoor.AS
end
section
set_option linter.unusedVariables false
set_option linter.unusedSimpArgs false
namespace Go.Proofs.YtkcgokkgefgcjaaDoorW.PrintWords
open Go.RowKit
/-- The world is the old one, some orders having been drawn. -/
structure Drawn0 (w w' : World) : Prop where mk :: (out : ∃ n, w' = w.drewN n)
theorem Drawn0.refl (w : World) : Drawn0 w w := ⟨⟨0, rfl⟩⟩
theorem Drawn0.step {w w' : World} (h : Drawn0 w w') (n : Nat) : Drawn0 w (w'.drewN n) := by
  obtain ⟨m, rfl⟩ := h
  exact ⟨⟨m + n, World.drewN_drewN ..⟩⟩
theorem Drawn0.grown {w w' : World} (h : Drawn0 w w') : Grown w w' := by
  obtain ⟨n, rfl⟩ := h
  induction n with
  | zero => exact Grown.refl _
  | succ n ih => rw [← World.drew_drewN]; exact Grown.drew ih
theorem Drawn0.below {w w' : World} (h : Drawn0 w w') : Below w.heap.size w w' := by
  obtain ⟨n, rfl⟩ := h
  induction n with
  | zero => exact Below.refl _ _
  | succ n ih => rw [← World.drew_drewN]; exact ih.drew
def rd (xs : List Int) (i : Int) : Int := xs.getD i.toNat 0
theorem below_alloc {w W : World} (h : Below w.heap.size w W) (o : Obj) : Below w.heap.size w (W.alloc o) := h.alloc h.size o
theorem grown_of_below {w w1 : World} (h : Below w.heap.size w w1) (row : Option Nat) : w.grownBy w1 row := ⟨h.os, h.tape, h.output, h.size, fun i hi _ => h.block i hi⟩
theorem pw_cell_below {w w1 : World} (h : Below w.heap.size w w1) {a : Addr} {v : Value} (hc : w.cell? a = some v) : w1.cell? a = some v := (h.cell (World.block_lt_of_cell? w a hc)).trans hc
def ReadsInt (w : World) (k : IntKind) (A : Option Addr) (n : Nat) (xs : List Int) : Prop :=
  xs.length = n ∧ n ≤ 9223372036854775807 ∧ (0 < n → ∃ ad, A = some ad ∧ ∀ j, j < n → w.cell? (ad.add j) = some (.int k (xs.getD j 0)))
theorem ReadsInt.at_ {w : World} {k : IntKind} {A : Option Addr} {n : Nat} {xs : List Int} (h : ReadsInt w k A n xs) (i : Int) (h0 : 0 ≤ i) (h1 : i < n) : ∃ ad, A = some ad ∧ w.cell? (ad.add i.toNat) = some (.int k (rd xs i)) := by
  obtain ⟨ad, e, hc⟩ := h.2.2 (by omega)
  exact ⟨ad, e, hc _ (by omega)⟩
theorem ReadsInt.below {w w1 : World} {k : IntKind} {A : Option Addr} {n : Nat} {xs : List Int} (h : ReadsInt w k A n xs) (hb : Below w.heap.size w w1) : ReadsInt w1 k A n xs :=
  ⟨h.1, h.2.1, fun hn => by
    obtain ⟨ad, e, hc⟩ := h.2.2 hn
    exact ⟨ad, e, fun j hj => pw_cell_below hb (hc j hj)⟩⟩
theorem own_nil (W : World) (base : Nat) (e : TypeId) (size : Nat) : W.ownsRow base e size (.slice none 0 0) 0 [] := ⟨by simp, .inl ⟨rfl, rfl⟩⟩
theorem own_base {w : World} {base : Nat} {e : TypeId} {size n : Nat} {v : Value} {xs : List Value} (h : w.ownsRow base e size v n xs) (k : Nat) (hk : v.ownBlock = some k) : base ≤ k := by
  rcases h.2 with ⟨rfl, _⟩ | ⟨g, cap, cur, rfl, hb, _⟩
  · simp [Value.ownBlock] at hk
  · have : g = k := by simpa [Value.ownBlock] using hk
    omega
theorem own_lt {w : World} {base : Nat} {e : TypeId} {size n : Nat} {v : Value} {xs : List Value} (h : w.ownsRow base e size v n xs) (k : Nat) (hk : v.ownBlock = some k) : k < w.heap.size := by
  rcases h.2 with ⟨rfl, _⟩ | ⟨g, cap, cur, rfl, hb, hh, _⟩
  · simp [Value.ownBlock] at hk
  · have : g = k := by simpa [Value.ownBlock] using hk
    subst this
    exact (Array.getElem?_eq_some_iff.1 hh).1
theorem pw_own_below {w w1 : World} {base : Nat} {e : TypeId} {size n : Nat} {v : Value} {xs : List Value} (h : w.ownsRow base e size v n xs) (hb : Below w.heap.size w w1) : w1.ownsRow base e size v n xs :=
  h.kept (grown_of_below hb none) (by cases v.ownBlock <;> simp)
/-- What is written is another row: this one lives on. -/
theorem own_other {w w1 : World} {base : Nat} {e : TypeId} {size n : Nat} {v : Value} {xs : List Value} (h : w.ownsRow base e size v n xs) {row : Option Nat} (hg : w.grownBy w1 row) (hne : v.ownBlock = none ∨ v.ownBlock ≠ row) : w1.ownsRow base e size v n xs := h.kept hg hne
section
variable {P : Program} {ops : Array Oper} {rest : List Oper} {o : Oper} {a : Act} {Q : Exit → Act → World → Prop}
end
section
variable {P : Program}
end
section
variable {P : Program} {ops : Array Oper} {rest : List Oper} {o : Oper} {a : Act} {Q : Exit → Act → World → Prop}
end
def bytesOf (s : ByteArray) : List Int := s.data.toList.map fun b => (b.toNat : Int)
/-- Where the first answers, the second answers the same. -/
def LeO {α : Type} (a b : Option α) : Prop := ∀ r, a = some r → b = some r
theorem LeO.refl {α : Type} (a : Option α) : LeO a a := fun _ h => h
theorem LeO.none {α : Type} (b : Option α) : LeO Option.none b := fun _ h => by cases h
theorem LeO.trans {α : Type} {a b c : Option α} (h : LeO a b) (k : LeO b c) : LeO a c := fun r hr => k r (h r hr)
theorem LeO.ite {α : Type} {c : Prop} [Decidable c] {a a' b b' : Option α} (h : LeO a a') (k : LeO b b') : LeO (if c then a else b) (if c then a' else b') := by
  split
  · exact h
  · exact k
theorem LeO.bind {α β : Type} {a a' : Option α} {f f' : α → Option β} (h : LeO a a') (k : ∀ x, LeO (f x) (f' x)) : LeO (a.bind f) (a'.bind f') := by
  intro r hr
  obtain ⟨x, hx, hf⟩ := Option.bind_eq_some_iff.1 hr
  exact Option.bind_eq_some_iff.2 ⟨x, h x hx, k x r hf⟩
theorem LeO.map {α β : Type} {a a' : Option α} (f : α → β) (h : LeO a a') : LeO (a.map f) (a'.map f) := by
  intro r hr
  obtain ⟨x, hx, hf⟩ := Option.map_eq_some_iff.1 hr
  exact Option.map_eq_some_iff.2 ⟨x, h x hx, hf⟩
theorem more_rounds {α : Type} {g : Nat → Option α} (h : ∀ k, LeO (g k) (g (k + 1))) (k : Nat) : ∀ j, LeO (g k) (g (k + j))
  | 0 => LeO.refl _
  | j + 1 => (more_rounds h k j).trans (h (k + j))
theorem at_rounds {α : Type} {g : Nat → Option α} (h : ∀ k, LeO (g k) (g (k + 1))) {k k' : Nat} (hk : k ≤ k') {r : α} (hr : g k = some r) : g k' = some r := by
  have := more_rounds h k (k' - k) r hr
  rwa [Nat.add_sub_cancel' hk] at this
def Reps {α : Type} (R : α → List Value → Prop) (size : Nat) (ps : List α) (cs : List Value) : Prop :=
  cs.length = ps.length * size ∧ ∀ j p, ps[j]? = some p → R p ((cs.drop (j * size)).take size)
theorem Reps.none {α : Type} (R : α → List Value → Prop) (size : Nat) : Reps R size [] [] := ⟨by simp, fun j p h => by simp at h⟩
theorem Reps.snoc {α : Type} {R : α → List Value → Prop} {size : Nat} {ps : List α} {cs c : List Value} {p : α} (h : Reps R size ps cs) (hp : R p c) (hc : c.length = size) : Reps R size (ps ++ [p]) (cs ++ c) := by
  refine ⟨by rw [List.length_append, h.1, hc, List.length_append, List.length_singleton, Nat.add_mul, Nat.one_mul], fun j q hq => ?_⟩
  rcases Nat.lt_or_ge j ps.length with hj | hj
  · rw [List.getElem?_append_left hj] at hq
    have h1 : j * size + size ≤ cs.length := by rw [h.1, ← Nat.succ_mul]; exact Nat.mul_le_mul_right _ hj
    have h2 := h.2 j q hq
    rw [List.drop_append_of_le_length (by omega), List.take_append_of_le_length (by rw [List.length_drop]; omega)]
    exact h2
  · have hj' : j = ps.length := by
      have := (List.getElem?_eq_some_iff.1 hq).1
      rw [List.length_append, List.length_singleton] at this
      omega
    subst hj'
    have hq' : p = q := by simpa using hq
    subst hq'
    rw [← h.1, List.drop_left, ← hc, List.take_length]
    exact hp
theorem Reps.imp_ {α : Type} {R R' : α → List Value → Prop} {size : Nat} {ps : List α} {cs : List Value} (h : Reps R size ps cs) (hR : ∀ p c, R p c → R' p c) : Reps R' size ps cs := ⟨h.1, fun j p hj => hR _ _ (h.2 j p hj)⟩
def ReadsRow {α : Type} (R : α → List Value → Prop) (size : Nat) (w : World) (A : Option Addr) (n : Nat) (ps : List α) : Prop :=
  ps.length = n ∧ n ≤ 9223372036854775807 ∧ (0 < n → ∃ ad, A = some ad ∧ ∀ j p, ps[j]? = some p → ∃ c, c.length = size ∧ R p c ∧ ∀ i u, c[i]? = some u → w.cell? (ad.add (j * size + i)) = some u)
theorem ReadsRow.imp_ {α : Type} {R R' : α → List Value → Prop} {size : Nat} {w w1 : World} {A : Option Addr} {n : Nat} {ps : List α} (h : ReadsRow R size w A n ps) (hb : Below w.heap.size w w1) (hR : ∀ p c, R p c → R' p c) : ReadsRow R' size w1 A n ps :=
  ⟨h.1, h.2.1, fun hn => by
    obtain ⟨ad, e, hc⟩ := h.2.2 hn
    refine ⟨ad, e, fun j p hj => ?_⟩
    obtain ⟨c, hs, hr, hcell⟩ := hc j p hj
    exact ⟨c, hs, hR _ _ hr, fun i u hu => pw_cell_below hb (hcell i u hu)⟩⟩
theorem own_reads_row {α : Type} {R : α → List Value → Prop} {w : World} {base n size : Nat} {e : TypeId} {v : Value} {ps : List α} {cs : List Value} (h : w.ownsRow base e size v n cs) (hR : Reps R size ps cs) (hn : ps.length = n) :
    ∃ A c, v = .slice A n c ∧ ReadsRow R size w A n ps := by
  rcases Nat.eq_zero_or_pos n with h0 | h0
  · rcases h.2 with ⟨rfl, rfl⟩ | ⟨g, cap, cur, rfl, _⟩
    · exact ⟨none, 0, rfl, hn, by omega, fun hp => absurd hp (by omega)⟩
    · exact ⟨_, cap, rfl, hn, by omega, fun hp => absurd hp (by omega)⟩
  · obtain ⟨g, cap, rfl, _, _⟩ := h.form h0
    have hm : n ≤ 9223372036854775807 := by
      rcases h.2 with ⟨_, h1⟩ | ⟨g', cap', cur, he, _, _, h1, h2, _⟩
      · omega
      · simp only [maxLen] at h2
        omega
    refine ⟨_, cap, rfl, hn, hm, fun _ => ⟨_, rfl, fun j p hj => ⟨(cs.drop (j * size)).take size, ?_, hR.2 j p hj, fun i u hu => ?_⟩⟩⟩
    · have hjl := (List.getElem?_eq_some_iff.1 hj).1
      have h1 : j * size + size ≤ cs.length := by rw [hR.1, ← Nat.succ_mul]; exact Nat.mul_le_mul_right _ hjl
      rw [List.length_take, List.length_drop]
      omega
    · refine h.cells (g := g) rfl _ u ?_
      rw [List.getElem?_take] at hu
      split at hu
      · rw [List.getElem?_drop] at hu
        exact hu
      · cases hu
section
variable {P : Program} {ops : Array Oper} {rest : List Oper} {o : Oper} {a : Act} {Q : Exit → Act → World → Prop}
/-- append(v, x), x of several cells; behind 'at_builtin'; the goal's world is 'W.alloc' of the variadic's box. -/
theorem print_append_cells {w0 W : World} (base : Nat) (hgd : o.guard = none) (s x : Operand) (t e : TypeId) (z : Value) (size bytes : Nat)
    (ho : o.op = .call { callee := .builtin .append, args := #[s, x], argTypes := #[t, t] })
    (ht : P.underlying t = some (.slice e)) (hinfo : (P.info? e).map (fun i => (i.zero, i.size, i.bytes)) = some (some z, size, bytes)) (hz : z.cells.size = size) (hs0 : 0 < size) (hb0 : 0 < bytes)
    (v : Value) (n : Nat) (xs ys : List Value) (hs : a.eval s = v) (hx : a.eval x = .slice (some ⟨W.heap.size, 0, none⟩) 1 1) (hys : ys.length = size) (h1 : ∀ u ∈ ys, u.oneCell' = true)
    (HO : W.ownsRow base e size v n xs) (HB : Below base w0 W) (hbase : base ≤ W.heap.size) (hl : (n + 1) * bytes ≤ 140737488355328)
    (h : ∀ v1 w1, w1.ownsRow base e size v1 (n + 1) (xs ++ ys) → Below base w0 w1 → W.grownBy w1 v.ownBlock → (v1.ownBlock = v.ownBlock ∨ ∃ b, v1.ownBlock = some b ∧ W.heap.size ≤ b) → wpList P ops Q rest (a.put o.dst v1) w1) :
    wpList P ops Q (o :: rest) a (W.alloc (.cells ys.toArray e)) := by
  obtain ⟨i0, hi, hzz⟩ := Option.map_eq_some_iff.1 hinfo
  simp only [Prod.mk.injEq] at hzz
  obtain ⟨hz0, hz1, hz2⟩ := hzz
  have hlen : n + 1 ≤ 140737488355328 := Nat.le_trans (Nat.le_mul_of_pos_right _ hb0) hl
  refine wpList_append_own_at (W.alloc (.cells ys.toArray e)) hgd s x t ho base e i0 z size bytes ht hi hz0 hz1 hz2 hz hs0 v n xs hs (HO.alloc _) ⟨W.heap.size, 0, none⟩ 1 1 ys hx (by rw [hys]; simp)
    (by simpa using World.news_of_block (cs := ys.toArray) (t := e) (fr := (0, 0)) (heap_alloc_new W (.cells ys.toArray e))) h1 (by simp only [maxLen]; omega) hl (by simp; omega) ?_
  intro v1 w1 hown hg _ hat
  refine h v1 w1 hown ((HB.alloc hbase _).grown hg (by simp; omega) (own_base HO)) (World.grownBy.trans (World.grownBy_alloc W _ _) hg) ?_
  rcases hat with hat | hat
  · exact .inl hat
  · exact .inr ⟨_, hat, by simp⟩
end
theorem own_ne {w : World} {base : Nat} {e t : TypeId} {size n g : Nat} {v : Value} {xs : List Value} {cs : Array Value} (h : w.ownsRow base e size v n xs) (hg : w.heap[g]? = some (.cells cs t (0, 0))) (hne : e ≠ t) : some g ≠ v.ownBlock := by
  rcases h.2 with ⟨rfl, _⟩ | ⟨g', cap, cur, rfl, _, hh, _⟩
  · simp [Value.ownBlock]
  · intro he
    have : g = g' := by simpa [Value.ownBlock] using he
    subst this
    rw [hg] at hh
    injection hh with hh
    injection hh with _ ht
    exact hne ht.symm
theorem own_setCell {w : World} {base : Nat} {e : TypeId} {size n : Nat} {v : Value} {xs : List Value} (h : w.ownsRow base e size v n xs) {p : Addr} (hne : some p.block ≠ v.ownBlock) (u : Value) : (w.setCell p u).ownsRow base e size v n xs := by
  obtain ⟨h1, h2⟩ := h
  refine ⟨h1, ?_⟩
  rcases h2 with h2 | ⟨g, cap, cur, rfl, hg, hh, r⟩
  · exact .inl h2
  · exact .inr ⟨g, cap, cur, rfl, hg, by rw [Below.heap_setCell _ _ _ _ (fun e => hne (by rw [e]; rfl))]; exact hh, r⟩
theorem blk_lt {w : World} {g : Nat} {o : Obj} (h : w.heap[g]? = some o) : g < w.heap.size := (Array.getElem?_eq_some_iff.1 h).1
def KeepBut (w w' : World) (g : Nat) (row : Option Nat) : Prop := w.heap.size ≤ w'.heap.size ∧ ∀ i, i < w.heap.size → i ≠ g → some i ≠ row → w'.heap[i]? = w.heap[i]?
theorem KeepBut.refl (w : World) (g : Nat) (row : Option Nat) : KeepBut w w g row := ⟨Nat.le_refl _, fun _ _ _ _ => rfl⟩
theorem KeepBut.of_below {w w1 : World} (h : Below w.heap.size w w1) (g : Nat) (row : Option Nat) : KeepBut w w1 g row := ⟨h.size, fun i hi _ _ => h.block i hi⟩
theorem KeepBut.set_ {w w1 : World} {g : Nat} {row : Option Nat} (h : KeepBut w w1 g row) (j : Nat) (u : Value) : KeepBut w (w1.setCell ⟨g, j, none⟩ u) g row :=
  ⟨by simpa [World.setCell] using h.1, fun i hi hg hr => (Below.heap_setCell w1 ⟨g, j, none⟩ u i hg).trans (h.2 i hi hg hr)⟩
theorem KeepBut.trans {w w1 w2 : World} {g : Nat} {row row1 : Option Nat} (h : KeepBut w w1 g row) (k : KeepBut w1 w2 g row1) (hr : row1 = row ∨ ∃ b, row1 = some b ∧ w.heap.size ≤ b) : KeepBut w w2 g row :=
  ⟨Nat.le_trans h.1 k.1, fun i hi hg hn => by
    refine (k.2 i (Nat.lt_of_lt_of_le hi h.1) hg ?_).trans (h.2 i hi hg hn)
    rcases hr with rfl | ⟨b, rfl, hb⟩
    · exact hn
    · intro e
      injection e with e
      omega⟩
/-- Another block, another row: they live on. -/
theorem KeepBut.blk {w w1 : World} {g g' : Nat} {row : Option Nat} {o : Obj} (h : KeepBut w w1 g row) (hb : w.heap[g']? = some o) (hg : g' ≠ g) (hr : some g' ≠ row) : w1.heap[g']? = some o := (h.2 g' (blk_lt hb) hg hr).trans hb
theorem KeepBut.own {w w1 : World} {g : Nat} {row : Option Nat} {base : Nat} {e : TypeId} {size n : Nat} {v : Value} {xs : List Value} (h : KeepBut w w1 g row) (ho : w.ownsRow base e size v n xs) (hg : v.ownBlock ≠ some g) (hr : v.ownBlock = none ∨ v.ownBlock ≠ row) : w1.ownsRow base e size v n xs := by
  obtain ⟨h1, h2⟩ := ho
  refine ⟨h1, ?_⟩
  rcases h2 with h2 | ⟨b, cap, cur, rfl, hb, hh, r⟩
  · exact .inl h2
  · refine .inr ⟨b, cap, cur, rfl, hb, h.blk hh ?_ ?_, r⟩
    · intro e
      exact hg (by rw [← e]; rfl)
    · rcases hr with hr | hr
      · simp [Value.ownBlock] at hr
      · exact hr
def Ev {α : Type} (g : Nat → Option α) (r : α) : Prop := ∃ K, ∀ k, K ≤ k → g k = some r
theorem Ev.of {α : Type} {g : Nat → Option α} {r : α} (hg : ∀ k, LeO (g k) (g (k + 1))) {k : Nat} (h : g k = some r) : Ev g r := ⟨k, fun _ hk => at_rounds hg hk h⟩
theorem Ev.now {α : Type} (r : α) : Ev (fun _ => some r) r := ⟨0, fun _ _ => rfl⟩
theorem Ev.bind {α β : Type} {g : Nat → Option α} {f : Nat → α → Option β} {a : α} {r : β} (h : Ev g a) (k : Ev (fun n => f n a) r) : Ev (fun n => (g n).bind (f n)) r := by
  obtain ⟨K, h⟩ := h
  obtain ⟨K', k⟩ := k
  refine ⟨max K K', fun n hn => ?_⟩
  have h1 := h n (by omega)
  have h2 := k n (by omega)
  simp only [h1, Option.bind_some]
  exact h2
/-- One round of a loop. -/
theorem Ev.step {α : Type} {g f : Nat → Option α} {r : α} (h : ∀ k, g (k + 1) = f k) (k : Ev f r) : Ev g r := by
  obtain ⟨K, k⟩ := k
  refine ⟨K + 1, fun n hn => ?_⟩
  obtain ⟨m, rfl⟩ : ∃ m, n = m + 1 := ⟨n - 1, by omega⟩
  rw [h]
  exact k m (by omega)
theorem Ev.congr {α : Type} {g f : Nat → Option α} {r : α} (h : ∀ k, g k = f k) (k : Ev f r) : Ev g r := by
  obtain ⟨K, k⟩ := k
  exact ⟨K, fun n hn => (h n).trans (k n hn)⟩
section
variable {P : Program} {ops : Array Oper} {o : Oper} {a : Act} {Q : Exit → Act → World → Prop} {K : Act → World → Prop}
end
theorem own_weaken {w : World} {base base' : Nat} {e : TypeId} {size n : Nat} {v : Value} {xs : List Value} (h : w.ownsRow base e size v n xs) (hb : base' ≤ base) : w.ownsRow base' e size v n xs := by
  obtain ⟨h1, h2⟩ := h
  refine ⟨h1, ?_⟩
  rcases h2 with h2 | ⟨g, cap, cur, rfl, hg, r⟩
  · exact .inl h2
  · exact .inr ⟨g, cap, cur, rfl, Nat.le_trans hb hg, r⟩
section
variable {α : Type} {enc : α → Value} {d : α}
def rdOf (d : α) (xs : List α) (i : Int) : α := xs.getD i.toNat d
def ReadsOf (enc : α → Value) (d : α) (w : World) (A : Option Addr) (n : Nat) (xs : List α) : Prop :=
  xs.length = n ∧ n ≤ 9223372036854775807 ∧ (0 < n → ∃ ad, A = some ad ∧ ∀ j, j < n → w.cell? (ad.add j) = some (enc (xs.getD j d)))
theorem ReadsOf.at_ {w : World} {A : Option Addr} {n : Nat} {xs : List α} (h : ReadsOf enc d w A n xs) (i : Int) (h0 : 0 ≤ i) (h1 : i < n) : ∃ ad, A = some ad ∧ w.cell? (ad.add i.toNat) = some (enc (rdOf d xs i)) := by
  obtain ⟨ad, e, hc⟩ := h.2.2 (by omega)
  exact ⟨ad, e, hc _ (by omega)⟩
theorem ReadsOf.below {w w1 : World} {A : Option Addr} {n : Nat} {xs : List α} (h : ReadsOf enc d w A n xs) (hb : Below w.heap.size w w1) : ReadsOf enc d w1 A n xs :=
  ⟨h.1, h.2.1, fun hn => by
    obtain ⟨ad, e, hc⟩ := h.2.2 hn
    exact ⟨ad, e, fun j hj => pw_cell_below hb (hc j hj)⟩⟩
end
section
variable {α : Type} {P : Program} {ops : Array Oper} {rest : List Oper} {o : Oper} {a : Act} {Q : Exit → Act → World → Prop}
end
section
variable {P : Program}
end
theorem own_le {w : World} {base n m c size : Nat} {e : TypeId} {A : Option Addr} {xs : List Value} (h : w.ownsRow base e size (.slice A m c) n xs) : m ≤ c := by
  rcases h.2 with ⟨he, _⟩ | ⟨g, cap, cur, he, _, _, hnc, _⟩
  · injection he with _ h2 h3
    omega
  · injection he with _ h2 h3
    omega
def OwnRow {α : Type} (R : α → List Value → Prop) (e : TypeId) (size : Nat) (w : World) (base : Nat) (v : Value) (ps : List α) : Prop :=
  ∃ inner, w.ownsRow base e size v ps.length inner ∧ Reps R size ps inner
section
variable {α : Type} {R R' : α → List Value → Prop} {e : TypeId} {size : Nat} {w w1 : World} {base : Nat} {v : Value} {ps : List α}
theorem OwnRow.none_ (R : α → List Value → Prop) (e : TypeId) (size : Nat) (w : World) (base : Nat) : OwnRow R e size w base (.slice none 0 0) [] := ⟨[], own_nil _ _ _ _, Reps.none _ _⟩
theorem OwnRow.imp_ (h : OwnRow R e size w base v ps) (hR : ∀ p c, R p c → R' p c) : OwnRow R' e size w base v ps := by
  obtain ⟨inner, ho, hr⟩ := h
  exact ⟨inner, ho, hr.imp_ hR⟩
theorem OwnRow.below (h : OwnRow R e size w base v ps) (hb : Below w.heap.size w w1) : OwnRow R e size w1 base v ps := by
  obtain ⟨inner, ho, hr⟩ := h
  exact ⟨inner, pw_own_below ho hb, hr⟩
theorem OwnRow.other (h : OwnRow R e size w base v ps) {row : Option Nat} (hg : w.grownBy w1 row) (hne : v.ownBlock = none ∨ v.ownBlock ≠ row) : OwnRow R e size w1 base v ps := by
  obtain ⟨inner, ho, hr⟩ := h
  exact ⟨inner, own_other ho hg hne, hr⟩
theorem OwnRow.set_ (h : OwnRow R e size w base v ps) {g : Nat} {t : TypeId} {cells : Array Value} (hb : w.heap[g]? = some (.cells cells t (0, 0))) (ht : e ≠ t) (j : Nat) (u : Value) : OwnRow R e size (w.setCell ⟨g, j, none⟩ u) base v ps := by
  obtain ⟨inner, ho, hr⟩ := h
  exact ⟨inner, own_setCell ho (own_ne ho hb ht) u, hr⟩
theorem OwnRow.keep (h : OwnRow R e size w base v ps) {g : Nat} {t : TypeId} {cells : Array Value} (hb : w.heap[g]? = some (.cells cells t (0, 0))) (ht : e ≠ t) (hk : KeepBut w w1 g none) : OwnRow R e size w1 base v ps := by
  obtain ⟨inner, ho, hr⟩ := h
  exact ⟨inner, hk.own ho (Ne.symm (own_ne ho hb ht)) (by cases v.ownBlock <;> simp), hr⟩
theorem OwnRow.reads (h : OwnRow R e size w base v ps) : ∃ A c, v = .slice A ps.length c ∧ ps.length ≤ c ∧ ReadsRow R size w A ps.length ps := by
  obtain ⟨inner, ho, hr⟩ := h
  obtain ⟨A, c, rfl, hrow⟩ := own_reads_row ho hr rfl
  exact ⟨A, c, rfl, own_le ho, hrow⟩
/-- A literal: the elements' cells one behind the other. -/
theorem OwnRow.lit (W : World) (base : Nat) {inner : List Value} (hr : Reps R size ps inner) (hb : base ≤ W.heap.size) (hm : ps.length ≤ 9223372036854775807) :
    OwnRow R e size (W.alloc (.cells inner.toArray e)) base (.slice (some ⟨W.heap.size, 0, none⟩) ps.length ps.length) ps := by
  have h := World.ownsRow_lit (base := base) (e := e) (size := size) W inner.toArray ps.length hb (by simpa [maxLen] using hm) (by simpa using hr.1)
  exact ⟨inner, by simpa using h, hr⟩
end
section
variable {P : Program} {ops : Array Oper} {rest : List Oper} {o : Oper} {a : Act} {Q : Exit → Act → World → Prop} {α : Type} {R : α → List Value → Prop}
/-- append(v, x): x's cells are cs. R is that of the world AHEAD; move it over hg ('OwnRow.imp_'). -/
theorem OwnRow.append {w0 W : World} (base : Nat) (hgd : o.guard = none) (s x : Operand) (t e : TypeId) (z : Value) (size bytes : Nat)
    (ho : o.op = .call { callee := .builtin .append, args := #[s, x], argTypes := #[t, t] })
    (ht : P.underlying t = some (.slice e)) (hinfo : (P.info? e).map (fun i => (i.zero, i.size, i.bytes)) = some (some z, size, bytes)) (hz : z.cells.size = size) (hs0 : 0 < size) (hb0 : 0 < bytes)
    (v : Value) (ps : List α) (p : α) (cs : List Value) (hs : a.eval s = v) (hx : a.eval x = .slice (some ⟨W.heap.size, 0, none⟩) 1 1) (hp : R p cs) (hcs : cs.length = size) (h1 : ∀ u ∈ cs, u.oneCell' = true)
    (HO : OwnRow R e size W base v ps) (HB : Below base w0 W) (hbase : base ≤ W.heap.size) (hl : (ps.length + 1) * bytes ≤ 140737488355328)
    (h : ∀ v1 w1, OwnRow R e size w1 base v1 (ps ++ [p]) → Below base w0 w1 → W.grownBy w1 v.ownBlock → (v1.ownBlock = v.ownBlock ∨ ∃ b, v1.ownBlock = some b ∧ W.heap.size ≤ b) → wpList P ops Q rest (a.put o.dst v1) w1) :
    wpList P ops Q (o :: rest) a (W.alloc (.cells cs.toArray e)) := by
  obtain ⟨inner, hown, hr⟩ := HO
  refine print_append_cells base hgd s x t e z size bytes ho ht hinfo hz hs0 hb0 v ps.length inner cs hs hx hcs h1 hown HB hbase hl ?_
  intro v1 w1 hown1 hb1 hg1 hat1
  exact h v1 w1 ⟨inner ++ cs, by rw [List.length_append, List.length_singleton]; exact hown1, hr.snoc hp hcs⟩ hb1 hg1 hat1
end
section
variable {P : Program} {ops : Array Oper} {o : Oper} {a : Act} {Q : Exit → Act → World → Prop} {K : Act → World → Prop} {α : Type} {R : α → List Value → Prop}
end
section
variable {α : Type} {P : Program}
theorem ReadsOf.len_ {enc : α → Value} {d : α} {w : World} {A : Option Addr} {n : Nat} {xs : List α} (h : ReadsOf enc d w A n xs) : ReadsOf enc d w A xs.length xs := by rw [h.1]; exact h
end
section
variable {P : Program} {ops : Array Oper} {rest : List Oper} {o : Oper} {a : Act} {Q : Exit → Act → World → Prop}
end
/-- ok: which blocks the rows inside may be ('not the row that is being written'). -/
structure Kd (α : Type) where
  sz : Nat
  E : List Nat
  K : World → α → List Value → Prop
  M : World → Nat → (Nat → Prop) → α → List Value → Prop
  K_len : ∀ {w x cs}, K w x cs → cs.length = sz
  K_one : ∀ {w x cs}, K w x cs → ∀ u ∈ cs, u.oneCell' = true
  K_below : ∀ {w w1 : World} {x cs}, Below w.heap.size w w1 → K w x cs → K w1 x cs
  K_of_M : ∀ {w base ok x cs}, M w base ok x cs → K w x cs
  M_mono : ∀ {w base ok ok' x cs}, (∀ k, ok k → ok' k) → M w base ok x cs → M w base ok' x cs
  M_bound : ∀ {w : World} {base ok x cs}, M w base ok x cs → M w base (fun k => ok k ∧ base ≤ k ∧ k < w.heap.size ∧ ∃ q, q ∈ E ∧ ∃ cells, w.heap[k]? = some (.cells cells q (0, 0))) x cs
  M_move : ∀ {w w1 : World} {base ok x cs}, (∀ k, ok k → w1.heap[k]? = w.heap[k]?) → M w base ok x cs → M w1 base ok x cs
  M_lower : ∀ {w base base' ok x cs}, base' ≤ base → M w base ok x cs → M w base' ok x cs
theorem own_move {w w1 : World} {base : Nat} {e : TypeId} {size n : Nat} {v : Value} {xs : List Value} (h : w.ownsRow base e size v n xs) (hm : ∀ k, v.ownBlock = some k → w1.heap[k]? = w.heap[k]?) : w1.ownsRow base e size v n xs := by
  obtain ⟨h1, h2⟩ := h
  refine ⟨h1, ?_⟩
  rcases h2 with h2 | ⟨g, cap, cur, rfl, hg, hh, r⟩
  · exact .inl h2
  · exact .inr ⟨g, cap, cur, rfl, hg, (hm g (by simp [Value.ownBlock])).trans hh, r⟩
theorem own_typed {w : World} {base : Nat} {e : TypeId} {size n : Nat} {v : Value} {xs : List Value} (h : w.ownsRow base e size v n xs) (k : Nat) (hk : v.ownBlock = some k) : ∃ cells, w.heap[k]? = some (.cells cells e (0, 0)) := by
  rcases h.2 with ⟨rfl, _⟩ | ⟨g, cap, cur, rfl, hg, hh, r⟩
  · simp [Value.ownBlock] at hk
  · have : g = k := by simpa [Value.ownBlock] using hk
    subst this
    exact ⟨cur, hh⟩
namespace Kd
/-- A row of elements that is read. -/
def C {α : Type} (d : Kd α) (w : World) (A : Option Addr) (n : Nat) (xs : List α) : Prop := ReadsRow (d.K w) d.sz w A n xs
/-- A row of elements (type e) of the call's own; the elements' rows are not this one. -/
def R {α : Type} (d : Kd α) (e : Nat) (w : World) (base : Nat) (ok : Nat → Prop) (v : Value) (xs : List α) : Prop :=
  (∀ k, v.ownBlock = some k → ok k) ∧ OwnRow (d.M w base (fun k => ok k ∧ some k ≠ v.ownBlock)) e d.sz w base v xs
section
variable {α : Type} {d : Kd α} {e : Nat} {w w1 : World} {base : Nat} {ok ok' : Nat → Prop} {v : Value} {xs : List α}
theorem C_below {A : Option Addr} {n : Nat} (h : d.C w A n xs) (hb : Below w.heap.size w w1) : d.C w1 A n xs := ReadsRow.imp_ h hb (fun _ _ hp => d.K_below hb hp)
theorem R_mono (h : d.R e w base ok v xs) (hok : ∀ k, ok k → ok' k) : d.R e w base ok' v xs := ⟨fun k hk => hok k (h.1 k hk), h.2.imp_ (fun _ _ hp => d.M_mono (fun k hk => ⟨hok k hk.1, hk.2⟩) hp)⟩
theorem R_bound (h : d.R e w base ok v xs) : d.R e w base (fun k => ok k ∧ base ≤ k ∧ k < w.heap.size ∧ ∃ q, q ∈ e :: d.E ∧ ∃ cells, w.heap[k]? = some (.cells cells q (0, 0))) v xs := by
  obtain ⟨h0, inner, ho, hr⟩ := h
  refine ⟨fun k hk => ?_, inner, ho, hr.imp_ (fun _ _ hp => d.M_mono (fun k hk => ?_) (d.M_bound hp))⟩
  · obtain ⟨cells, hc⟩ := own_typed ho k hk
    exact ⟨h0 k hk, own_base ho k hk, own_lt ho k hk, e, List.mem_cons_self, cells, hc⟩
  · obtain ⟨⟨h1, h2⟩, h3, h4, q, hq, hc⟩ := hk
    exact ⟨⟨h1, h3, h4, q, List.mem_cons_of_mem _ hq, hc⟩, h2⟩
theorem R_move (h : d.R e w base ok v xs) (hm : ∀ k, ok k → w1.heap[k]? = w.heap[k]?) : d.R e w1 base ok v xs := by
  obtain ⟨h0, inner, ho, hr⟩ := h
  exact ⟨h0, inner, own_move ho (fun k hk => hm k (h0 k hk)), hr.imp_ (fun _ _ hp => d.M_move (fun k hk => hm k hk.1) hp)⟩
theorem R_lower {base' : Nat} (h : d.R e w base ok v xs) (hb : base' ≤ base) : d.R e w base' ok v xs := by
  obtain ⟨h0, inner, ho, hr⟩ := h
  exact ⟨h0, inner, own_weaken ho hb, hr.imp_ (fun _ _ hp => d.M_lower hb hp)⟩
theorem R_reads (h : d.R e w base ok v xs) : ∃ A c, v = .slice A xs.length c ∧ xs.length ≤ c ∧ d.C w A xs.length xs := by
  obtain ⟨A, c, he, hl, hr⟩ := OwnRow.reads h.2
  exact ⟨A, c, he, hl, hr.imp_ (Below.refl _ _) (fun _ _ hp => d.K_of_M hp)⟩
end
def scalar {α : Type} (enc : α → Value) (h1 : ∀ x, (enc x).oneCell' = true) : Kd α where
  sz := 1
  E := []
  K := fun _ x cs => cs = [enc x]
  M := fun _ _ _ x cs => cs = [enc x]
  K_len := fun h => by rw [h]; rfl
  K_one := fun h u hu => by
    rw [h] at hu
    rw [List.mem_singleton.1 hu]
    exact h1 _
  K_below := fun _ h => h
  K_of_M := fun h => h
  M_mono := fun _ h => h
  M_bound := fun h => h
  M_move := fun _ h => h
  M_lower := fun _ h => h
def int (k : IntKind) : Kd Int := scalar (Value.int k) (fun _ => rfl)
def bool : Kd Bool := scalar Value.bool (fun _ => rfl)
def string : Kd ByteArray := scalar Value.string (fun _ => rfl)
def slice {α : Type} (e : Nat) (d : Kd α) : Kd (List α) where
  sz := 1
  E := e :: d.E
  K := fun w xs cs => ∃ A c, cs = [.slice A xs.length c] ∧ xs.length ≤ c ∧ d.C w A xs.length xs
  M := fun w base ok xs cs => ∃ v, cs = [v] ∧ d.R e w base ok v xs
  K_len := by
    rintro w x cs ⟨A, c, rfl, _⟩
    rfl
  K_one := by
    rintro w x cs ⟨A, c, rfl, _⟩ u hu
    rw [List.mem_singleton.1 hu]
    rfl
  K_below := by
    rintro w w1 x cs hb ⟨A, c, rfl, hl, hr⟩
    exact ⟨A, c, rfl, hl, C_below hr hb⟩
  K_of_M := by
    rintro w base ok x cs ⟨v, rfl, h⟩
    obtain ⟨A, c, rfl, hl, hr⟩ := R_reads h
    exact ⟨A, c, rfl, hl, hr⟩
  M_mono := by
    rintro w base ok ok' x cs hok ⟨v, rfl, h⟩
    exact ⟨v, rfl, R_mono h hok⟩
  M_bound := by
    rintro w base ok x cs ⟨v, rfl, h⟩
    exact ⟨v, rfl, R_bound h⟩
  M_move := by
    rintro w w1 base ok x cs hm ⟨v, rfl, h⟩
    exact ⟨v, rfl, R_move h hm⟩
  M_lower := by
    rintro w base base' ok x cs hb ⟨v, rfl, h⟩
    exact ⟨v, rfl, R_lower h hb⟩
/-- Two in line. -/
def pair {α β : Type} (a : Kd α) (b : Kd β) : Kd (α × β) where
  sz := a.sz + b.sz
  E := a.E ++ b.E
  K := fun w x cs => ∃ c0 c1, cs = c0 ++ c1 ∧ a.K w x.1 c0 ∧ b.K w x.2 c1
  M := fun w base ok x cs => ∃ c0 c1, cs = c0 ++ c1 ∧ a.M w base ok x.1 c0 ∧ b.M w base ok x.2 c1
  K_len := by
    rintro w x cs ⟨c0, c1, rfl, h0, h1⟩
    rw [List.length_append, a.K_len h0, b.K_len h1]
  K_one := by
    rintro w x cs ⟨c0, c1, rfl, h0, h1⟩ u hu
    rcases List.mem_append.1 hu with hu | hu
    · exact a.K_one h0 u hu
    · exact b.K_one h1 u hu
  K_below := by
    rintro w w1 x cs hb ⟨c0, c1, rfl, h0, h1⟩
    exact ⟨c0, c1, rfl, a.K_below hb h0, b.K_below hb h1⟩
  K_of_M := by
    rintro w base ok x cs ⟨c0, c1, rfl, h0, h1⟩
    exact ⟨c0, c1, rfl, a.K_of_M h0, b.K_of_M h1⟩
  M_mono := by
    rintro w base ok ok' x cs hok ⟨c0, c1, rfl, h0, h1⟩
    exact ⟨c0, c1, rfl, a.M_mono hok h0, b.M_mono hok h1⟩
  M_bound := by
    rintro w base ok x cs ⟨c0, c1, rfl, h0, h1⟩
    refine ⟨c0, c1, rfl, a.M_mono ?_ (a.M_bound h0), b.M_mono ?_ (b.M_bound h1)⟩
    · rintro k ⟨h2, h3, h4, q, hq, hc⟩
      exact ⟨h2, h3, h4, q, List.mem_append_left _ hq, hc⟩
    · rintro k ⟨h2, h3, h4, q, hq, hc⟩
      exact ⟨h2, h3, h4, q, List.mem_append_right _ hq, hc⟩
  M_move := by
    rintro w w1 base ok x cs hm ⟨c0, c1, rfl, h0, h1⟩
    exact ⟨c0, c1, rfl, a.M_move hm h0, b.M_move hm h1⟩
  M_lower := by
    rintro w base base' ok x cs hb ⟨c0, c1, rfl, h0, h1⟩
    exact ⟨c0, c1, rfl, a.M_lower hb h0, b.M_lower hb h1⟩
/-- Nothing is of this kind: where the nesting's depth is used up. -/
def bot {α : Type} (sz : Nat) (E : List Nat) : Kd α where
  sz := sz
  E := E
  K := fun _ _ _ => False
  M := fun _ _ _ _ _ => False
  K_len := fun h => h.elim
  K_one := fun h => h.elim
  K_below := fun _ h => h
  K_of_M := fun h => h
  M_mono := fun _ h => h
  M_bound := fun h => h
  M_move := fun _ h => h
  M_lower := fun _ h => h
/-- A type nested in itself: nested at most n deep .. -/
def upto {α : Type} (F : Kd α → Kd α) (sz : Nat) (E : List Nat) : Nat → Kd α
  | 0 => bot sz E
  | n + 1 => F (upto F sz E n)
/-- .. for some n. -/
def fix {α : Type} (F : Kd α → Kd α) (sz : Nat) (E : List Nat) (hs : ∀ n, (upto F sz E n).sz = sz) (hE : ∀ n q, q ∈ (upto F sz E n).E → q ∈ E) : Kd α where
  sz := sz
  E := E
  K := fun w x cs => ∃ n, (upto F sz E n).K w x cs
  M := fun w base ok x cs => ∃ n, (upto F sz E n).M w base ok x cs
  K_len := by
    rintro w x cs ⟨n, h⟩
    rw [(upto F sz E n).K_len h, hs n]
  K_one := by
    rintro w x cs ⟨n, h⟩
    exact (upto F sz E n).K_one h
  K_below := by
    rintro w w1 x cs hb ⟨n, h⟩
    exact ⟨n, (upto F sz E n).K_below hb h⟩
  K_of_M := by
    rintro w base ok x cs ⟨n, h⟩
    exact ⟨n, (upto F sz E n).K_of_M h⟩
  M_mono := by
    rintro w base ok ok' x cs hok ⟨n, h⟩
    exact ⟨n, (upto F sz E n).M_mono hok h⟩
  M_bound := by
    rintro w base ok x cs ⟨n, h⟩
    refine ⟨n, (upto F sz E n).M_mono ?_ ((upto F sz E n).M_bound h)⟩
    rintro k ⟨h2, h3, h4, q, hq, hc⟩
    exact ⟨h2, h3, h4, q, hE n q hq, hc⟩
  M_move := by
    rintro w w1 base ok x cs hm ⟨n, h⟩
    exact ⟨n, (upto F sz E n).M_move hm h⟩
  M_lower := by
    rintro w base base' ok x cs hb ⟨n, h⟩
    exact ⟨n, (upto F sz E n).M_lower hb h⟩
section
variable {P : Program} {ops : Array Oper} {rest : List Oper} {o : Oper} {a : Act} {Q : Exit → Act → World → Prop} {α : Type}
end
section
variable {P : Program} {ops : Array Oper} {o : Oper} {a : Act} {Q : Exit → Act → World → Prop} {Kc : Act → World → Prop} {α : Type}
end
end Kd
namespace Kd
/-- F says the more, the more its argument says. -/
structure Mono {α β : Type} (F : Kd α → Kd β) : Prop where
  sz : ∀ d d' : Kd α, d.sz = d'.sz → (F d).sz = (F d').sz
  K : ∀ d d' : Kd α, d.sz = d'.sz → (∀ w x cs, d.K w x cs → d'.K w x cs) → ∀ w x cs, (F d).K w x cs → (F d').K w x cs
  M : ∀ d d' : Kd α, d.sz = d'.sz → (∀ w base ok x cs, d.M w base ok x cs → d'.M w base ok x cs) → ∀ w base ok x cs, (F d).M w base ok x cs → (F d').M w base ok x cs
section
variable {α : Type} {F : Kd α → Kd α} {sz : Nat} {E : List Nat} {hs : ∀ n, (upto F sz E n).sz = sz} {hE : ∀ n q, q ∈ (upto F sz E n).E → q ∈ E}
end
end Kd
namespace Kd
end Kd
namespace Kd
section
variable {α β : Type} {d : Kd α} {d' : Kd β} {e e' : Nat} {w w1 W : World} {base b b' : Nat} {ok ok' okv oku : Nat → Prop} {v u : Value} {xs : List α} {ys : List β}
end
section
variable {w W : World} {A : Option Addr} {n : Nat}
variable {α : Type} {enc : α → Value} {h1 : ∀ x, (enc x).oneCell' = true} {e base g cap : Nat} {ok : Nat → Prop} {xs : List α}
end
section
variable {P : Program} {ops : Array Oper} {rest : List Oper} {o : Oper} {a : Act} {Q : Exit → Act → World → Prop}
variable {α : Type}
end
end Kd
section
variable {P : Program}
end
/-- A row of one's own that may begin inside its block. -/
def QRow (w : World) (base : Nat) (e : TypeId) (size : Nat) (v : Value) (n : Nat) (xs : List Value) : Prop :=
  xs.length = n * size ∧
  ((n = 0 ∧ ∃ A, v = .slice A 0 0 ∧ ∀ a, A = some a → base ≤ a.block ∧ ∃ cur, w.heap[a.block]? = some (.cells cur e (0, 0))) ∨
   ∃ g off cap cur, v = .slice (some ⟨g, off * size, none⟩) n cap ∧ base ≤ g ∧ w.heap[g]? = some (.cells cur e (0, 0)) ∧ n ≤ cap ∧ off + cap ≤ maxLen ∧ cur.size = (off + cap) * size ∧ (cur.toList.drop (off * size)).take (n * size) = xs)
section
variable {w w1 : World} {base n size : Nat} {e : TypeId} {v : Value} {xs : List Value}
end
section
variable {P : Program}
end
namespace Kd
def Q {α : Type} (d : Kd α) (e : Nat) (w : World) (base : Nat) (ok : Nat → Prop) (v : Value) (xs : List α) : Prop :=
  (∀ k, v.ownBlock = some k → ok k) ∧ ∃ inner, QRow w base e d.sz v xs.length inner ∧ Reps (d.M w base (fun k => ok k ∧ some k ≠ v.ownBlock)) d.sz xs inner
section
variable {α : Type} {d : Kd α} {e : Nat} {w w1 W : World} {base : Nat} {ok ok' : Nat → Prop} {v : Value} {xs : List α}
end
section
variable {P : Program} {ops : Array Oper} {rest : List Oper} {o : Oper} {a : Act} {Q' : Exit → Act → World → Prop} {Kc : Act → World → Prop} {α : Type}
end
end Kd
namespace Kd
section
variable {α : Type} {d : Kd α} {e e' : Nat} {w w1 W : World} {base : Nat} {ok : Nat → Prop} {u v : Value} {xs : List α}
end
end Kd
namespace Kd
section
variable {α : Type} {d : Kd α} {e base g n cap : Nat} {ok okp : Nat → Prop} {W : World} {xs : List α}
end
end Kd
namespace Kd
section
variable {α : Type} {F : Kd α → Kd α} {sz : Nat} {E : List Nat} {hs : ∀ n, (upto F sz E n).sz = sz} {hE : ∀ n q, q ∈ (upto F sz E n).E → q ∈ E}
end
end Kd
namespace Kd
section
variable {P : Program} {ops : Array Oper} {rest : List Oper} {o : Oper} {a : Act} {Q : Exit → Act → World → Prop} {α : Type}
end
end Kd
namespace Kd
section
variable {P : Program} {ops : Array Oper} {rest : List Oper} {o : Oper} {a : Act} {Q : Exit → Act → World → Prop} {α : Type}
end
end Kd
namespace Kd
section
variable {α : Type} {k : Kd α} {w : World} {A : Option Addr} {xs : List α} {m c : Nat}
end
end Kd
section
variable {P : Program}
end
theorem ReadsInt.nil (W : World) (k : IntKind) : ReadsInt W k none ([] : List Int).length [] := ⟨rfl, by simp, fun h => absurd h (Nat.lt_irrefl 0)⟩
theorem ReadsInt.drewN {W : World} {k : IntKind} {A : Option Addr} {n : Nat} {xs : List Int} (h : ReadsInt W k A n xs) (m : Nat) : ReadsInt (W.drewN m) k A n xs := h
theorem keep_cell {w W : World} {g : Nat} (h : KeepBut w W g none) {a : Addr} {v : Value} (hc : w.cell? a = some v) (hne : a.block ≠ g) : W.cell? a = some v := by
  have := h.2 a.block (World.block_lt_of_cell? w a hc) hne (by simp)
  simpa [World.cell?, this] using hc
theorem add_block (a : Addr) (i : Nat) : (a.add i).block = a.block := by unfold Addr.add; split <;> rfl
theorem ReadsOf.nil {α : Type} (enc : α → Value) (d : α) (W : World) : ReadsOf enc d W none ([] : List α).length [] := ⟨rfl, by simp, fun h => absurd h (Nat.lt_irrefl 0)⟩
theorem ReadsOf.drewN {α : Type} {enc : α → Value} {d : α} {W : World} {A : Option Addr} {n : Nat} {xs : List α} (h : ReadsOf enc d W A n xs) (m : Nat) : ReadsOf enc d (W.drewN m) A n xs := h
theorem ReadsInt.keep {w W : World} {k : IntKind} {A : Option Addr} {n g : Nat} {xs : List Int} (h : ReadsInt w k A n xs) (hk : KeepBut w W g none) (hf : ∀ ad, A = some ad → 0 < n → ad.block ≠ g) : ReadsInt W k A n xs :=
  ⟨h.1, h.2.1, fun hn => by
    obtain ⟨ad, e, hc⟩ := h.2.2 hn
    exact ⟨ad, e, fun j hj => keep_cell hk (hc j hj) (by rw [add_block]; exact hf ad e hn)⟩⟩
theorem ReadsOf.keep {α : Type} {enc : α → Value} {d : α} {w W : World} {A : Option Addr} {n g : Nat} {xs : List α} (h : ReadsOf enc d w A n xs) (hk : KeepBut w W g none) (hf : ∀ ad, A = some ad → 0 < n → ad.block ≠ g) : ReadsOf enc d W A n xs :=
  ⟨h.1, h.2.1, fun hn => by
    obtain ⟨ad, e, hc⟩ := h.2.2 hn
    exact ⟨ad, e, fun j hj => keep_cell hk (hc j hj) (by rw [add_block]; exact hf ad e hn)⟩⟩
namespace Kd
section
variable {α β : Type} {d : Kd α} {d' : Kd β} {e e' base base' n : Nat} {ok ok' : Nat → Prop} {w W w1 W1 : World} {v u : Value} {xs : List α} {ys : List β} {A : Option Addr} {c : Nat}
end
section
variable {α : Type} {enc : α → Value} {h1 : ∀ x, (enc x).oneCell' = true} {w W : World} {A : Option Addr} {n g : Nat} {xs : List α}
end
end Kd
namespace Kd
section
variable {α : Type} {d : Kd α} {e base g : Nat} {ok : Nat → Prop} {w w1 : World} {v : Value} {xs : List α} {o : Obj}
end
end Kd
section
variable {P : Program} {ops : Array Oper} {rest : List Oper} {o : Oper} {a : Act} {Q : Exit → Act → World → Prop}
end
namespace Kd
section
variable {α : Type} {enc : α → Value} {h1 : ∀ x, (enc x).oneCell' = true} {e base g n cap : Nat} {ok : Nat → Prop} {W : World} {xs : List α}
end
end Kd
section
variable {P : Program} {ops : Array Oper} {rest : List Oper} {o : Oper} {a : Act} {Q : Exit → Act → World → Prop}
end
namespace Kd
section
variable {α : Type} {enc : α → Value} {h1 : ∀ x, (enc x).oneCell' = true} {e base g n cap : Nat} {ok : Nat → Prop} {W : World} {xs : List α}
end
end Kd
section
variable {P : Program} {ops : Array Oper} {rest : List Oper} {o : Oper} {a : Act} {Q : Exit → Act → World → Prop} {W : World}
end
section
variable {P : Program} {ops : Array Oper} {o : Oper} {a : Act} {Q : Exit → Act → World → Prop} {Kc : Act → World → Prop}
namespace Kd
variable {α : Type}
end Kd
end
inductive Vals (P : Program) (tmps : Array Value) (w : World) : List ResultVar → List Value → Prop where
  | nil : Vals P tmps w [] []
  | tmp {u : Tmp} {rs : List ResultVar} {vs : List Value} (h : Vals P tmps w rs vs) : Vals P tmps w (.tmp u :: rs) (tmps.getD u undef :: vs)
  | cell {p : Tmp} {ty : TypeId} {rs : List ResultVar} {vs : List Value} (g : Nat) (t : TypeId) (cs : Array Value) (fr : Nat × Nat) (d : TypeDesc)
      (hp : tmps.getD p undef = .pointer (some ⟨g, 0, none⟩)) (hg : w.heap[g]? = some (.cells cs t fr))
      (hu : P.underlying ty = some d) (hd : (match d with | .struct _ | .array _ _ => true | _ => false) = true) (hi : (P.info? ty).map (·.size) = some cs.size)
      (h : Vals P tmps w rs vs) : Vals P tmps w (.cell p ty :: rs) (.agg cs :: vs)
section
variable {P : Program} {tmps : Array Value} {w : World}
end
namespace Kd
section
variable {P : Program} {α : Type}
end
section
variable {P : Program} {ops : Array Oper} {rest : List Oper} {o : Oper} {a : Act} {Q : Exit → Act → World → Prop} {Kc : Act → World → Prop} {α : Type}
end
end Kd
end Go.Proofs.YtkcgokkgefgcjaaDoorW.PrintWords
end
section
namespace Go.Proofs.YtkcgokkgefgcjaaDoor.H
open Go.RowKit Go.MapKept Go.Proofs.YtkcgokkgefgcjaaDoorW.PrintWords
set_option linter.unusedVariables false
set_option linter.unusedSimpArgs false
variable {P : Program}
def m0 (w : World) : M :=
  { w0 := w, fix := ⟨fun k => k < w.heap.size, fun k => k < w.heap.size, fun _ h => h⟩, com := fun b o => match w.cell? ⟨b, o, none⟩ with | some v => if v.oneCell' then some v else none | none => none, loc := fun _ => none, res := fun _ => false }
theorem m0_com {w : World} {b o : Nat} {v : Value} : (m0 w).com b o = some v ↔ w.cell? ⟨b, o, none⟩ = some v ∧ v.oneCell' = true := by
  show (match w.cell? ⟨b, o, none⟩ with | some v => if v.oneCell' then some v else none | none => none) = some v ↔ _
  cases h : w.cell? ⟨b, o, none⟩ with
  | none => simp
  | some u =>
    simp only
    split
    · rename_i h1; simp only [Option.some.injEq]; constructor
      · rintro rfl; exact ⟨rfl, h1⟩
      · exact fun h => h.1
    · rename_i h1; simp only [Option.some.injEq, false_iff, not_and, reduceCtorEq]; rintro rfl; exact h1
def s0 : HS := fun _ => none
theorem rel0 (w : World) : Rel (m0 w) s0 w :=
  ⟨⟨rfl, rfl, rfl, fun k h => ⟨h, rfl⟩⟩, fun b o v h => (m0_com.1 h).1, (fun id ob l h => by cases h), (fun id ob l h => by cases h), (fun id id' ob ob' l l' h => by cases h), 0, fun id _ => ⟨rfl, rfl, rfl⟩⟩
/-- A kind's cells, as H values. -/
structure Br {α : Type} (d : Kd α) (enc : α → List HV) : Prop where
  pos : 0 < d.sz
  len : ∀ x, (enc x).length = d.sz
  rep : ∀ w x cs, d.K w x cs → Reps (m0 w) (enc x) cs
theorem reps1 {m : M} {x : HV} {v : Value} (h : Rep m x v) (ho : hone x = true) : Reps m [x] [v] :=
  ⟨fun z hz => by simp at hz; subst hz; exact ho, rfl, fun j z hj => by cases j with | zero => simp at hj; subst hj; exact h | succ j => simp at hj⟩
theorem Br.int (k : IntKind) : Br (Kd.int k) (fun n => [.lit (.int k n)]) := ⟨Nat.one_pos, fun _ => rfl, fun w x cs h => by rw [show cs = [.int k x] from h]; exact reps1 (.lit _) rfl⟩
theorem Br.bool : Br Kd.bool (fun b => [.lit (.bool b)]) := ⟨Nat.one_pos, fun _ => rfl, fun w x cs h => by rw [show cs = [.bool x] from h]; exact reps1 (.lit _) rfl⟩
theorem Br.string : Br Kd.string (fun b => [.lit (.string b)]) := ⟨Nat.one_pos, fun _ => rfl, fun w x cs h => by rw [show cs = [.string x] from h]; exact reps1 (.lit _) rfl⟩
theorem Br.pair {α β : Type} {a : Kd α} {b : Kd β} {ea : α → List HV} {eb : β → List HV} (ha : Br a ea) (hb : Br b eb) : Br (Kd.pair a b) (fun x => ea x.1 ++ eb x.2) :=
  ⟨Nat.lt_of_lt_of_le ha.pos (Nat.le_add_right _ _), fun x => by rw [List.length_append, ha.len, hb.len]; rfl, fun w x cs h => by
    obtain ⟨c0, c1, rfl, h0, h1⟩ := h
    exact (ha.rep w _ _ h0).append (hb.rep w _ _ h1)⟩
theorem flat_at {α : Type} {enc : α → List HV} {sz : Nat} (hlen : ∀ x, (enc x).length = sz) (hpos : 0 < sz) : ∀ (xs : List α) (j : Nat), (xs.flatMap enc)[j]? = (xs[j / sz]?).bind fun x => (enc x)[j % sz]?
  | [], j => by simp
  | x :: xs, j => by
    rw [List.flatMap_cons]
    by_cases h : j < sz
    · rw [List.getElem?_append_left (by rw [hlen]; exact h), Nat.div_eq_of_lt h, Nat.mod_eq_of_lt h]; simp
    · rw [List.getElem?_append_right (by rw [hlen]; omega), hlen, flat_at hlen hpos xs]
      have h1 : j / sz = (j - sz) / sz + 1 := by rw [Nat.div_eq_sub_div hpos (by omega)]
      have h2 : j % sz = (j - sz) % sz := Nat.mod_eq_sub_mod (by omega)
      rw [h1, h2]; simp
theorem flat_len {α : Type} {enc : α → List HV} {sz : Nat} (hlen : ∀ x, (enc x).length = sz) : ∀ xs : List α, (xs.flatMap enc).length = xs.length * sz
  | [] => by simp
  | x :: xs => by rw [List.flatMap_cons, List.length_append, hlen, flat_len hlen xs, List.length_cons, Nat.add_mul]; omega
theorem Br.row {α : Type} {d : Kd α} {enc : α → List HV} (h : Br d enc) {w : World} {A : Option Addr} {n c : Nat} {xs : List α} (hr : d.C w A n xs) (hc : n ≤ c) : Rep (m0 w) (.list d.sz n (xs.flatMap enc) false) (.slice A n c) := by
  obtain ⟨h1, h2, h3⟩ := hr
  rcases Nat.eq_zero_or_pos n with hn | hn
  · subst hn
    have : xs = [] := List.eq_nil_of_length_eq_zero h1
    subst this
    exact .list0 _ _ _ _ (fun h => by cases h)
  · obtain ⟨ad, rfl, hx⟩ := h3 hn
    have hlenF := flat_len h.len xs
    rw [h1] at hlenF
    -- each cell
    have key : ∀ j, j < n * d.sz → ∃ v y, w.cell? (ad.add j) = some v ∧ v.oneCell' = true ∧ (xs.flatMap enc)[j]? = some y ∧ Rep (m0 w) y v ∧ hone y = true := by
      intro j hj
      have hq : j / d.sz < xs.length := by rw [h1]; exact Nat.div_lt_of_lt_mul (by rw [Nat.mul_comm]; exact hj)
      have hxq : xs[j / d.sz]? = some xs[j / d.sz] := by simp [hq]
      obtain ⟨cs, hl, hk, hcell⟩ := hx _ _ hxq
      have hrp := h.rep w _ _ hk
      have hm : j % d.sz < cs.length := by rw [hl]; exact Nat.mod_lt _ h.pos
      have hcj : cs[j % d.sz]? = some cs[j % d.sz] := by simp [hm]
      have hm2 : j % d.sz < (enc xs[j / d.sz]).length := by rw [h.len]; exact Nat.mod_lt _ h.pos
      have hy : (enc xs[j / d.sz])[j % d.sz]? = some (enc xs[j / d.sz])[j % d.sz] := by simp [hm2]
      refine ⟨cs[j % d.sz], (enc xs[j / d.sz])[j % d.sz], ?_, d.K_one hk _ (List.getElem_mem hm), ?_, ?_, hrp.1 _ (List.getElem_mem hm2)⟩
      · have := hcell _ _ hcj
        rwa [Nat.div_add_mod' j d.sz] at this
      · rw [flat_at h.len h.pos, hxq]; exact hy
      · have := hrp.2.2 _ _ hy
        rwa [show cs.getD (j % d.sz) undef = cs[j % d.sz] from by simp [List.getD, hm]] at this
    have hspot : ad.spot = none := by
      obtain ⟨v, y, hv, -⟩ := key 0 (Nat.mul_pos hn h.pos)
      have e : ad.add 0 = ad := by unfold Addr.add; rfl
      rw [e] at hv
      unfold World.cell? at hv
      split at hv
      · split at hv
        · cases hv
        · rename_i hs; simpa using hs
      · cases hv
    obtain ⟨b, o, sp⟩ := ad
    simp only at hspot; subst hspot
    refine .list d.sz n _ false c b o (fun j => (w.cell? ⟨b, o + j, none⟩).getD undef) hc (fun h => by cases h) hlenF (fun x hx => ?_) (fun j hj => ?_) (fun j x hj => ?_)
    · obtain ⟨j, hj⟩ := List.getElem?_of_mem hx
      have hlt := (List.getElem?_eq_some_iff.1 hj).1
      obtain ⟨v, y, g1, g2, g3, g4, g5⟩ := key j (by omega)
      rw [g3] at hj; cases hj; exact g5
    · obtain ⟨v, y, g1, g2, g3, g4, g5⟩ := key j (by omega)
      rw [add_loc] at g1
      rw [g1]; exact m0_com.2 ⟨g1, g2⟩
    · have hlt := (List.getElem?_eq_some_iff.1 hj).1
      obtain ⟨v, y, g1, g2, g3, g4, g5⟩ := key j (by omega)
      rw [add_loc] at g1
      rw [g1]; rw [g3] at hj; cases hj; exact g4
theorem Br.slice {α : Type} (e : Nat) {d : Kd α} {enc : α → List HV} (h : Br d enc) : Br (Kd.slice e d) (fun xs => [.list d.sz xs.length (xs.flatMap enc) false]) :=
  ⟨Nat.one_pos, fun _ => rfl, fun w xs cs hk => by
    obtain ⟨A, c, rfl, hc, hr⟩ := hk
    exact reps1 (h.row hr hc) rfl⟩
/-- From the H layer to the law. -/
theorem law_of {f : FuncId} {args : List HV} {cargs : Array Value} {w : World} (h : HC P f args s0 fun v _ => v = .lit (.bool true)) (hn : cargs.size = args.length) (ha : ∀ (j : Nat) x, args[j]? = some x → Rep (m0 w) x (cargs.getD j undef)) :
    Calls P f cargs w fun e w' => e = .returned (.bool true) ∧ Below w.heap.size w w' := by
  refine (h (m0 w) w cargs (rel0 w) hn ha).mono ?_
  rintro e w' ⟨cv, v, s', m', rfl, h1, h2, h3, rfl⟩
  cases h3
  refine ⟨rfl, ?_⟩
  have hb := h2.below
  have hf := h1.fix
  have hkey : ∀ k, k < w.heap.size → k < w'.heap.size ∧ w'.heap[k]? = w.heap[k]? := fun k hk => ⟨(hb.block k (hf k hk).1).1, (hb.block k (hf k hk).1).2.trans (hf k hk).2⟩
  refine ⟨hb.os.trans h1.env.1, hb.tape.trans h1.env.2.1, hb.output.trans h1.env.2.2, ?_, fun k hk => (hkey k hk).2⟩
  rcases Nat.eq_zero_or_pos w.heap.size with h0 | h0
  · omega
  · have := (hkey (w.heap.size - 1) (by omega)).1
    omega
end Go.Proofs.YtkcgokkgefgcjaaDoor.H
end
section
namespace Go.Proofs.YtkcgokkgefgcjaaDoorW.PrintLast
section
variable {P : Program} {ops : Array Oper} {Q : Exit → Act → World → Prop} {md : Region.Mode} {S : World → Prop} {ds : List Nat}
def ListedClosed (md : Region.Mode) (ops : Array Oper) (listed : Array Bool) : Prop :=
  ∀ j oj, ops[j]? = some oj → listed.getD j false = true → ∀ e ∈ oj.after, Region.binds md e = true → listed.getD e.on false = true
theorem ListedClosed.set {listed : Array Bool} {i : Nat} (h : ListedClosed md ops listed) (hi : i ∈ Region.ready md ops listed) : ListedClosed md ops (listed.setIfInBounds i true) := by
  obtain ⟨_, oi, hoi, hall⟩ := mem_ready.1 hi
  intro j oj hj hl e he hb
  by_cases hij : i = j
  · subst hij
    have : oj = oi := Option.some.inj (hj.symm.trans hoi)
    subst this
    exact getD_set_true (hall e he hb)
  · rw [getD_set_ne false hij] at hl
    exact getD_set_true (h j oj hj hl e he hb)
/-- Whatever order is picked from here on, AND 'S' HOLDS BEHIND EVERY OPERATION THAT IS CARRIED OUT, those of ds apart. -/
def wpAnyLast (P : Program) (md : Region.Mode) (ops : Array Oper) (Q : Exit → Act → World → Prop) (S : World → Prop) (ds : List Nat) : Nat → Array Bool → Act → World → Prop
  | 0, listed, a, w => Region.ready md ops listed = [] ∧ Q .normal a w
  | fuel + 1, listed, a, w =>
    (Region.ready md ops listed = [] → Q .normal a w) ∧
    ∀ i ∈ Region.ready md ops listed, wpOp P ops Q i (fun a' w' => (i ∉ ds → S w → S w') ∧ wpAnyLast P md ops Q S ds fuel (listed.setIfInBounds i true) a' w') a w
end
section
variable {P : Program} {ops : Array Oper} {Q : Exit → Act → World → Prop} {md : Region.Mode} {S : World → Prop} {ds : List Nat}
def AllReadyL (P : Program) (md : Region.Mode) (ops : Array Oper) (Q : Exit → Act → World → Prop) (S : World → Prop) (ds : List Nat) (fuel : Nat) (listed : Array Bool) (a : Act) (w : World) (rs : List Nat) : Prop :=
  ∀ i ∈ rs, wpOp P ops Q i (fun a' w' => (i ∉ ds → S w → S w') ∧ wpAnyLast P md ops Q S ds fuel (listed.setIfInBounds i true) a' w') a w
theorem AllReadyL.nil {fuel : Nat} {listed : Array Bool} {a : Act} {w : World} : AllReadyL P md ops Q S ds fuel listed a w [] := fun _ h => by cases h
theorem AllReadyL.cons {fuel : Nat} {listed : Array Bool} {a : Act} {w : World} {i : Nat} {o : Oper} {rs : List Nat} (ho : ops[i]? = some o) (hd : i ∉ ds)
    (h : ∀ K' : Act → World → Prop, Shut (∀ a w, S w → (S w → wpAnyLast P md ops Q S ds fuel (listed.setIfInBounds i true) a w) → K' a w) → if Region.wanted o (yielded ops a.tmps) = true then Oper.wp P o a w K' Q else K' (a.put o.dst undef) w)
    (hs : AllReadyL P md ops Q S ds fuel listed a w rs) : AllReadyL P md ops Q S ds fuel listed a w (i :: rs) := fun j hj => by
  rcases List.mem_cons.1 hj with rfl | hj
  · exact wpOp_step ho (fun K' hK => h K' (fun a w hS hW => hK a w ⟨fun _ _ => hS, hW hS⟩))
  · exact hs j hj
end
end Go.Proofs.YtkcgokkgefgcjaaDoorW.PrintLast
end
section
namespace Go.Proofs.YtkcgokkgefgcjaaDoorW.PrintLast
end Go.Proofs.YtkcgokkgefgcjaaDoorW.PrintLast
end
section
namespace Go.Proofs.YtkcgokkgefgcjaaDoorW.PrintLast
end Go.Proofs.YtkcgokkgefgcjaaDoorW.PrintLast
end
section
namespace Go.Proofs.YtkcgokkgefgcjaaDoorW.PrintWords
end Go.Proofs.YtkcgokkgefgcjaaDoorW.PrintWords
namespace Kd
end Kd
end
section
namespace Go.Proofs.YtkcgokkgefgcjaaDoorW.PrintWords
open Go.RowKit
namespace Kd
/-- An element with its index: its blocks are those that f gives to it. -/
def tag {α : Type} (f : Nat → Nat) (d : Kd α) : Kd (α × Nat) where
  sz := d.sz
  E := d.E
  K := fun w x cs => d.K w x.1 cs
  M := fun w base ok x cs => d.M w base (fun k => ok k ∧ f k = x.2) x.1 cs
  K_len := fun h => d.K_len h
  K_one := fun h => d.K_one h
  K_below := fun hb h => d.K_below hb h
  K_of_M := fun h => d.K_of_M h
  M_mono := fun hok h => d.M_mono (fun k hk => ⟨hok k hk.1, hk.2⟩) h
  M_bound := fun h => d.M_mono (fun _ hk => ⟨⟨hk.1.1, hk.2⟩, hk.1.2⟩) (d.M_bound h)
  M_move := fun hm h => d.M_move (fun k hk => hm k hk.1) h
  M_lower := fun hb h => d.M_lower hb h
/-- The cells themselves. -/
def raw (sz : Nat) : Kd (List Value) where
  sz := sz
  E := []
  K := fun _ x cs => cs = x ∧ cs.length = sz ∧ ∀ u ∈ cs, u.oneCell' = true
  M := fun _ _ _ x cs => cs = x ∧ cs.length = sz ∧ ∀ u ∈ cs, u.oneCell' = true
  K_len := fun h => h.2.1
  K_one := fun h => h.2.2
  K_below := fun _ h => h
  K_of_M := fun h => h
  M_mono := fun _ h => h
  M_bound := fun h => h
  M_move := fun _ h => h
  M_lower := fun _ h => h
/-- A row of elements (type e) of the call's own, no two of which lead to one block. -/
def S {α : Type} (d : Kd α) (e : Nat) (w : World) (base : Nat) (ok : Nat → Prop) (v : Value) (xs : List α) : Prop := ∃ f, (tag f d).R e w base ok v xs.zipIdx
section
variable {α β : Type} {d : Kd α} {d' : Kd β} {e e' : Nat} {w w1 W : World} {base b : Nat} {ok ok' okv oku : Nat → Prop} {u v : Value} {xs : List α} {ys : List β}
end
section
variable {α β : Type} {d : Kd α} {d' : Kd β} {e e' g : Nat} {w w1 W : World} {base b : Nat} {ok ok' okv oku : Nat → Prop} {u v : Value} {xs : List α} {ys : List β}
end
section
variable {P : Program} {ops : Array Oper} {rest : List Oper} {o : Oper} {a : Act} {Q : Exit → Act → World → Prop} {Kc : Act → World → Prop} {α : Type}
end
/-- Element i is these cells; the others are d's. -/
def gap {α : Type} (f : Nat → Nat) (d : Kd α) (i : Nat) (c : List Value) : Kd (α × Nat) where
  sz := d.sz
  E := d.E
  K := fun w x cs => (x.2 = i → cs = c ∧ cs.length = d.sz ∧ ∀ u ∈ cs, u.oneCell' = true) ∧ (x.2 ≠ i → d.K w x.1 cs)
  M := fun w base ok x cs => (x.2 = i → cs = c ∧ cs.length = d.sz ∧ ∀ u ∈ cs, u.oneCell' = true) ∧ (x.2 ≠ i → d.M w base (fun k => ok k ∧ f k = x.2) x.1 cs)
  K_len := fun {w x cs} h => by
    by_cases hx : x.2 = i
    · exact (h.1 hx).2.1
    · exact d.K_len (h.2 hx)
  K_one := fun {w x cs} h => by
    by_cases hx : x.2 = i
    · exact (h.1 hx).2.2
    · exact d.K_one (h.2 hx)
  K_below := fun hb h => ⟨h.1, fun hx => d.K_below hb (h.2 hx)⟩
  K_of_M := fun h => ⟨h.1, fun hx => d.K_of_M (h.2 hx)⟩
  M_mono := fun hok h => ⟨h.1, fun hx => d.M_mono (fun k hk => ⟨hok k hk.1, hk.2⟩) (h.2 hx)⟩
  M_bound := fun h => ⟨h.1, fun hx => d.M_mono (fun _ hk => ⟨⟨hk.1.1, hk.2⟩, hk.1.2⟩) (d.M_bound (h.2 hx))⟩
  M_move := fun hm h => ⟨h.1, fun hx => d.M_move (fun k hk => hm k hk.1) (h.2 hx)⟩
  M_lower := fun hb h => ⟨h.1, fun hx => d.M_lower hb (h.2 hx)⟩
def H {α : Type} (d : Kd α) (e : Nat) (w : World) (base : Nat) (ok : Nat → Prop) (v : Value) (xs : List α) (i : Int) (oki : Nat → Prop) (c : List Value) : Prop :=
  (∀ k, oki k → ok k) ∧ ∃ f, (gap f d i.toNat c).R e w base (fun k => ok k ∧ ¬ oki k) v xs.zipIdx
section
variable {α β : Type} {d : Kd α} {e e' g n cap : Nat} {w w1 W : World} {base : Nat} {ok ok' oki okp : Nat → Prop} {u v : Value} {xs : List α} {i : Int} {c : List Value}
end
section
variable {P : Program} {ops : Array Oper} {rest : List Oper} {o : Oper} {a : Act} {Q : Exit → Act → World → Prop} {α : Type}
end
end Kd
end Go.Proofs.YtkcgokkgefgcjaaDoorW.PrintWords
end
section
namespace Go.Proofs.YtkcgokkgefgcjaaDoorW.PrintWords
end Go.Proofs.YtkcgokkgefgcjaaDoorW.PrintWords
namespace Kd
end Kd
end
section
namespace Go.Proofs.YtkcgokkgefgcjaaDoorW.PrintWords
end Go.Proofs.YtkcgokkgefgcjaaDoorW.PrintWords
namespace Kd
end Kd
end
section
namespace Go.Proofs.YtkcgokkgefgcjaaDoorW.PrintWords
open Go.RowKit
namespace Kd
/-- What a kind reads lies in the blocks: nothing else of the world is looked at. -/
structure Heap {α : Type} (d : Kd α) : Prop where
  K : ∀ {w w1 : World} {x : α} {cs : List Value}, (∀ k, k < w.heap.size → w1.heap[k]? = w.heap[k]?) → d.K w x cs → d.K w1 x cs
theorem cell_heap {w w1 : World} (hb : ∀ k, k < w.heap.size → w1.heap[k]? = w.heap[k]?) {a : Addr} {v : Value} (h : w.cell? a = some v) : w1.cell? a = some v := by
  have := hb a.block (World.block_lt_of_cell? w a h)
  simpa [World.cell?, this] using h
theorem Heap.C {α : Type} {d : Kd α} (hd : Heap d) {w w1 : World} {A : Option Addr} {n : Nat} {xs : List α} (hb : ∀ k, k < w.heap.size → w1.heap[k]? = w.heap[k]?) (h : d.C w A n xs) : d.C w1 A n xs :=
  ⟨h.1, h.2.1, fun hn => by
    obtain ⟨ad, e, hc⟩ := h.2.2 hn
    refine ⟨ad, e, fun j p hj => ?_⟩
    obtain ⟨c, hs, hr, hcell⟩ := hc j p hj
    exact ⟨c, hs, hd.K hb hr, fun i u hu => cell_heap hb (hcell i u hu)⟩⟩
section
variable {α : Type} {d : Kd α} {e base g n c : Nat} {ok : Nat → Prop} {w w0 W : World} {A : Option Addr} {xs : List α}
end
end Kd
end Go.Proofs.YtkcgokkgefgcjaaDoorW.PrintWords
end
section
namespace Go.Proofs.YtkcgokkgefgcjaaDoorW.PrintWords
open Go.RowKit
def Kept (w W : World) (S : Nat → Prop) : Prop := w.heap.size ≤ W.heap.size ∧ ∀ i, i < w.heap.size → ¬ S i → W.heap[i]? = w.heap[i]?
section
variable {w W W2 : World} {S S2 S' : Nat → Prop}
theorem Kept.refl (w : World) (S : Nat → Prop) : Kept w w S := ⟨Nat.le_refl _, fun _ _ _ => rfl⟩
theorem Kept.of_below (h : Below w.heap.size w W) (S : Nat → Prop) : Kept w W S := ⟨h.size, fun i hi _ => h.block i hi⟩
theorem Kept.mono (h : Kept w W S) (hs : ∀ k, S k → S' k) : Kept w W S' := ⟨h.1, fun i hi hn => h.2 i hi (fun hk => hn (hs i hk))⟩
theorem Kept.then_ (h : Kept w W S) (k : Kept W W2 S2) (hs : ∀ k, S2 k → S k ∨ w.heap.size ≤ k) : Kept w W2 S :=
  ⟨Nat.le_trans h.1 k.1, fun i hi hn => (k.2 i (Nat.lt_of_lt_of_le hi h.1) (fun h2 => (hs i h2).elim hn (fun h3 => by omega))).trans (h.2 i hi hn)⟩
theorem Kept.below (h : Kept w W S) (hb : Below W.heap.size W W2) : Kept w W2 S := h.then_ (Kept.of_below hb (fun _ => False)) (fun _ hk => hk.elim)
theorem Kept.alloc (h : Kept w W S) (o : Obj) : Kept w (W.alloc o) S := h.below (below_alloc (Below.refl _ _) o)
theorem Kept.drew (h : Kept w W S) : Kept w W.drew S := h
theorem Kept.drewN (h : Kept w W S) (m : Nat) : Kept w (W.drewN m) S := h
theorem Kept.setCell (h : Kept w W S) {p : Addr} (hp : S p.block ∨ w.heap.size ≤ p.block) (u : Value) : Kept w (W.setCell p u) S :=
  h.then_ (S2 := fun k => k = p.block) ⟨by simp [World.setCell], fun i _ hn => Below.heap_setCell W p u i hn⟩ (fun k hk => by rw [hk]; exact hp)
/-- Beside a state: what was written is new since. -/
theorem Kept.keep {g : Nat} (h : KeepBut w W g none) (k : Kept W W2 S2) (hs : ∀ k, S2 k → w.heap.size ≤ k) : KeepBut w W2 g none :=
  ⟨Nat.le_trans h.1 k.1, fun i hi hg hr => (k.2 i (Nat.lt_of_lt_of_le hi h.1) (fun h2 => by have := hs i h2; omega)).trans (h.2 i hi hg hr)⟩
end
namespace Kd
section
variable {α : Type} {d : Kd α} {e base n c : Nat} {ok oki S S2 : Nat → Prop} {w w0 W W1 W2 : World} {v : Value} {A : Option Addr} {xs : List α} {i : Int} {cs : List Value}
end
end Kd
end Go.Proofs.YtkcgokkgefgcjaaDoorW.PrintWords
end
section
namespace Go.Proofs.YtkcgokkgefgcjaaDoorW.PrintWords
open Go.RowKit
/-- P holds in W and in every world that has W's blocks of ok. -/
def Foot (P : World → Prop) (W : World) (ok : Nat → Prop) : Prop := ∀ W' : World, (∀ k, ok k → k < W.heap.size → W'.heap[k]? = W.heap[k]?) → P W'
theorem heap_lt {W W1 : World} {k : Nat} (h : W1.heap[k]? = W.heap[k]?) (hlt : k < W.heap.size) : k < W1.heap.size := by
  rw [Array.getElem?_eq_getElem hlt] at h
  exact (Array.getElem?_eq_some_iff.1 h).1
namespace Foot
variable {P Q : World → Prop} {W W1 : World} {ok ok' : Nat → Prop}
theorem now (h : Foot P W ok) : P W := h W (fun _ _ _ => rfl)
theorem mono (h : Foot P W ok) (hok : ∀ k, ok k → ok' k) : Foot P W ok' := fun W' hW => h W' (fun k hk hlt => hW k (hok k hk) hlt)
theorem bound (h : Foot P W ok) : Foot P W (fun k => ok k ∧ k < W.heap.size) := fun W' hW => h W' (fun k hk hlt => hW k ⟨hk, hlt⟩ hlt)
theorem step (h : Foot P W ok) (hm : ∀ k, ok k → k < W.heap.size → W1.heap[k]? = W.heap[k]?) : Foot P W1 ok := fun W' hW => h W' (fun k hk hlt => (hW k hk (heap_lt (hm k hk hlt) hlt)).trans (hm k hk hlt))
theorem imp (h : Foot P W ok) (hi : ∀ W', P W' → Q W') : Foot Q W ok := fun W' hW => hi W' (h W' hW)
/-- Moved, and still elder than what is new since W. -/
theorem old (h : Foot P W ok) (hb : Below W.heap.size W W1) : Foot P W1 (fun k => ok k ∧ k < W.heap.size) := (h.bound).step (fun k _ hlt => hb.block k hlt)
end Foot
namespace Kd
/-- A row that is only read: what it leads to lies in ok. -/
def F {α : Type} (d : Kd α) (W : World) (ok : Nat → Prop) (A : Option Addr) (n : Nat) (xs : List α) : Prop := Foot (fun W => d.C W A n xs) W ok
/-- An element's cells: what they lead to lies in ok. -/
def FK {α : Type} (d : Kd α) (W : World) (ok : Nat → Prop) (x : α) (c : List Value) : Prop := Foot (fun W => d.K W x c) W ok
section
variable {α β : Type} {d : Kd α} {e base n n' cc g N : Nat} {ok ok' okp S : Nat → Prop} {w w0 w1 W W1 : World} {A A' : Option Addr} {u v v1 : Value} {xs : List α} {xs' : List β} {d' : Kd β} {x : α} {c : List Value}
end
end Kd
end Go.Proofs.YtkcgokkgefgcjaaDoorW.PrintWords
end
section
namespace Go.Proofs.YtkcgokkgefgcjaaDoorW.PrintWords
open Go.RowKit
namespace Kd
section
variable {α : Type} {d : Kd α} {e base n cc g : Nat} {ok ok' okp S : Nat → Prop} {w w1 W W1 : World} {A : Option Addr} {u v v1 : Value} {xs : List α} {x : α} {c : List Value}
/-- A row of elements (type e) of the call's own; what the elements lead to is only read, and is not this row. -/
def N {α : Type} (d : Kd α) (e : Nat) (w : World) (base : Nat) (ok : Nat → Prop) (v : Value) (xs : List α) : Prop :=
  (∀ k, v.ownBlock = some k → ok k) ∧ ∃ rows : List (List Value), rows.length = xs.length ∧ (raw d.sz).R e w base (fun k => some k = v.ownBlock) v rows ∧ ∀ (j : Nat) (x : α) (c : List Value), xs[j]? = some x → rows[j]? = some c → FK d w (fun k => ok k ∧ some k ≠ v.ownBlock) x c
end
end Kd
end Go.Proofs.YtkcgokkgefgcjaaDoorW.PrintWords
end
section
namespace Go.Proofs.YtkcgokkgefgcjaaDoorW.PrintWords
end Go.Proofs.YtkcgokkgefgcjaaDoorW.PrintWords
namespace Kd
end Kd
end
section
namespace Go.Proofs.YtkcgokkgefgcjaaDoorW.PrintWords
end Go.Proofs.YtkcgokkgefgcjaaDoorW.PrintWords
namespace Kd
end Kd
end
section
namespace Go.Proofs.YtkcgokkgefgcjaaDoorW.PrintWords
end Go.Proofs.YtkcgokkgefgcjaaDoorW.PrintWords
end
section
namespace Go.Proofs.YtkcgokkgefgcjaaDoorW.PrintWords
/-- One cell an element. -/
theorem Reps.one {α : Type} {R : α → List Value → Prop} {ps : List α} {cs : List Value} {p : α} {v : Value} (hp : R p [v]) (h : Reps R 1 ps cs) : Reps R 1 (p :: ps) (v :: cs) := by
  refine ⟨by simp [h.1], fun j q hq => ?_⟩
  cases j with
  | zero =>
    simp only [List.getElem?_cons_zero, Option.some.injEq] at hq
    subst hq
    simpa using hp
  | succ j =>
    simp only [List.getElem?_cons_succ] at hq
    have h1 := h.2 j q hq
    simpa [Nat.mul_one] using h1
/-- More cells an element: told apart by the cells' list. -/
theorem Reps.front {α : Type} {R : α → List Value → Prop} {size : Nat} {ps : List α} {cs c all : List Value} {p : α} (hp : R p c) (hc : c.length = size) (h : Reps R size ps cs) (ha : c ++ cs = all) : Reps R size (p :: ps) all := by
  subst ha
  refine ⟨by rw [List.length_append, hc, h.1, List.length_cons, Nat.succ_mul, Nat.add_comm], fun j q hq => ?_⟩
  cases j with
  | zero =>
    simp only [List.getElem?_cons_zero, Option.some.injEq] at hq
    subst hq
    rw [Nat.zero_mul, List.drop_zero, List.take_append_of_le_length (by omega), List.take_of_length_le (by omega)]
    exact hp
  | succ j =>
    simp only [List.getElem?_cons_succ] at hq
    have h1 := h.2 j q hq
    rw [Nat.succ_mul, List.drop_append, List.drop_of_length_le (by rw [hc]; exact Nat.le_add_left _ _), List.nil_append, hc, Nat.add_sub_cancel]
    exact h1
theorem Reps.c2 {α : Type} {R : α → List Value → Prop} {ps : List α} {cs : List Value} {p : α} {va vb : Value} (hp : R p [va, vb]) (h : Reps R 2 ps cs) : Reps R 2 (p :: ps) (va :: vb :: cs) := Reps.front hp rfl h rfl
theorem Reps.c3 {α : Type} {R : α → List Value → Prop} {ps : List α} {cs : List Value} {p : α} {va vb vc : Value} (hp : R p [va, vb, vc]) (h : Reps R 3 ps cs) : Reps R 3 (p :: ps) (va :: vb :: vc :: cs) := Reps.front hp rfl h rfl
theorem Reps.c4 {α : Type} {R : α → List Value → Prop} {ps : List α} {cs : List Value} {p : α} {va vb vc vd : Value} (hp : R p [va, vb, vc, vd]) (h : Reps R 4 ps cs) : Reps R 4 (p :: ps) (va :: vb :: vc :: vd :: cs) := Reps.front hp rfl h rfl
theorem Reps.c8 {α : Type} {R : α → List Value → Prop} {ps : List α} {cs : List Value} {p : α} {va vb vc vd ve vf vg vh : Value} (hp : R p [va, vb, vc, vd, ve, vf, vg, vh]) (h : Reps R 8 ps cs) : Reps R 8 (p :: ps) (va :: vb :: vc :: vd :: ve :: vf :: vg :: vh :: cs) := Reps.front hp rfl h rfl
theorem Reps.c9 {α : Type} {R : α → List Value → Prop} {ps : List α} {cs : List Value} {p : α} {va vb vc vd ve vf vg vh vi : Value} (hp : R p [va, vb, vc, vd, ve, vf, vg, vh, vi]) (h : Reps R 9 ps cs) : Reps R 9 (p :: ps) (va :: vb :: vc :: vd :: ve :: vf :: vg :: vh :: vi :: cs) := Reps.front hp rfl h rfl
theorem Reps.c10 {α : Type} {R : α → List Value → Prop} {ps : List α} {cs : List Value} {p : α} {va vb vc vd ve vf vg vh vi vj : Value} (hp : R p [va, vb, vc, vd, ve, vf, vg, vh, vi, vj]) (h : Reps R 10 ps cs) : Reps R 10 (p :: ps) (va :: vb :: vc :: vd :: ve :: vf :: vg :: vh :: vi :: vj :: cs) := Reps.front hp rfl h rfl
end Go.Proofs.YtkcgokkgefgcjaaDoorW.PrintWords
end
section
namespace Go.Proofs.YtkcgokkgefgcjaaDoorW.PrintLast
/-- Number i is listed too. -/
def up (b : Nat → Bool) (i : Nat) : Nat → Bool := fun j => if j = i then true else b j
section
variable {P : Program} {ops : Array Oper} {Q : Exit → Act → World → Prop} {md : Region.Mode} {T : Bool × List (List Nat × List Nat)} {B : List Nat} {O : List Nat} {b : Nat → Bool} {i j n : Nat}
end
end Go.Proofs.YtkcgokkgefgcjaaDoorW.PrintLast
end
section
namespace Go.Proofs.YtkcgokkgefgcjaaDoorW.PrintWords
end Go.Proofs.YtkcgokkgefgcjaaDoorW.PrintWords
namespace Go.Proofs.YtkcgokkgefgcjaaDoorW.PrintLast
end Go.Proofs.YtkcgokkgefgcjaaDoorW.PrintLast
end
section
namespace Go.Proofs.YtkcgokkgefgcjaaDoorW.PrintWords
end Go.Proofs.YtkcgokkgefgcjaaDoorW.PrintWords
end
section
namespace Go.Proofs.YtkcgokkgefgcjaaDoorW.PrintWords
end Go.Proofs.YtkcgokkgefgcjaaDoorW.PrintWords
namespace Kd
end Kd
end
section
namespace Go.Proofs.YtkcgokkgefgcjaaDoorW.PrintMore
open Go.RowKit Go.Proofs.YtkcgokkgefgcjaaDoorW.PrintWords
namespace Kd
open Go.Proofs.YtkcgokkgefgcjaaDoorW.PrintWords.Kd
end Kd
namespace Kd
open Go.Proofs.YtkcgokkgefgcjaaDoorW.PrintWords.Kd
section
variable {α : Type} {d : Kd α} {e base g N : Nat} {ok : Nat → Prop} {W w1 : World} {u v : Value} {xs : List α}
end
end Kd
end Go.Proofs.YtkcgokkgefgcjaaDoorW.PrintMore
namespace Go.Proofs.YtkcgokkgefgcjaaDoorW.PrintWords
open Go.RowKit
section
variable {P : Program} {ops : Array Oper} {rest : List Oper} {o : Oper} {a : Act} {Q : Exit → Act → World → Prop} {W : World}
end
/-- The greater of two whole numbers, as Go's max tells it. -/
def mx (a b : Int) : Int := if a < b then b else a
/-- A shift to the left, as Go tells it: a count beyond the width leaves nothing. -/
def shl (k : IntKind) (x y : Int) : Int := k.wrap (x * 2 ^ min y.toNat k.bits)
/-- A shift to the right: a count beyond the width leaves the sign. -/
def shr (k : IntKind) (x y : Int) : Int := x / 2 ^ min y.toNat k.bits
namespace Kd
section
variable {α : Type} {d : Kd α} {e base : Nat} {ok : Nat → Prop} {W w1 : World} {v : Value} {xs : List α}
end
section
variable {α : Type} {d : Kd α} {e base g n cap : Nat} {ok oki okp : Nat → Prop} {W : World} {xs : List α} {i : Int} {c : List Value}
end
section
variable {α : Type} {d : Kd α} {e base b b' g N : Nat} {ok ok1 : Nat → Prop} {W W2 w1 : World} {u v : Value} {xs ys : List α} {S : Nat → Prop}
end
end Kd
end Go.Proofs.YtkcgokkgefgcjaaDoorW.PrintWords
namespace Go.Proofs.YtkcgokkgefgcjaaDoorW.PrintWords
open Go.RowKit
namespace Kd
section
variable {α β : Type} {d : Kd α} {e base base' n m c g N' lo hi : Nat} {ok ok' S : Nat → Prop} {w W w1 : World} {A : Option Addr} {ad : Addr} {u v v1 : Value} {xs : List α}
end
end Kd
end Go.Proofs.YtkcgokkgefgcjaaDoorW.PrintWords
end
section
namespace Go.Proofs.YtkcgokkgefgcjaaDoor.CK
open Go.RowKit Go.Proofs.YtkcgokkgefgcjaaDoorW.PrintWords Go.Proofs.YtkcgokkgefgcjaaDoorW.PrintLast Go.Proofs.YtkcgokkgefgcjaaDoorW.PrintMore
set_option linter.unusedVariables false
structure S50 where
  f0 : Int
  f1 : ByteArray
  f2 : (List ByteArray)
  f3 : Int
  f4 : Int
end Go.Proofs.YtkcgokkgefgcjaaDoor.CK
end
section
namespace Go.Proofs.YtkcgokkgefgcjaaDoor.JHW
open Go.Proofs.YtkcgokkgefgcjaaDoor.H Go.RowKit Go.Proofs.YtkcgokkgefgcjaaDoorW.PrintWords Go.Proofs.YtkcgokkgefgcjaaDoorW.PrintLast Go.Proofs.YtkcgokkgefgcjaaDoorW.PrintMore
set_option linter.unusedVariables false
theorem groupSessions_walk (a0 : Int) (a1 : Int) (a2 : Int) (w : World)  (q0 : (Lit.int .i64 a0).wf = true) (q1 : (Lit.int .i64 a1).wf = true) (q2 : (Lit.int .i64 a2).wf = true) :
    Calls Tryd.prog 3 #[.int .i64 a0, .int .i64 a1, .int .i64 a2] w fun e w' => e = .returned (.bool true) ∧ Below w.heap.size w w' := by
  refine law_of (AS.sessions_law a0 a1 a2 s0) rfl ?_
  intro j x hj
  rcases j with _ | _ | _ | j <;> simp at hj
  · subst hj; exact .lit _
  · subst hj; exact .lit _
  · subst hj; exact .lit _
end Go.Proofs.YtkcgokkgefgcjaaDoor.JHW
end
section
namespace Go.Proofs.YtkcgokkgefgcjaaDoorW.Opens
end Go.Proofs.YtkcgokkgefgcjaaDoorW.Opens
end
