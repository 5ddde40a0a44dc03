/- What the proof of the law GroupPlays needs, cut out of the session's own texts by a program (slim.py): part 6. -/
import Derived.Test.YtkcgokkgefgcjaaGreatDoorQGroupPlayse
section
section
namespace Go.Proofs.YtkcgokkgefgcjaaGreatDoor.AS
open Go.Proofs.YtkcgokkgefgcjaaGreatDoor.H Go.Proofs.YtkcgokkgefgcjaaGreatDoor.G0 Go.Proofs.YtkcgokkgefgcjaaGreatDoor.G1
set_option linter.unusedVariables false
set_option linter.unusedSimpArgs false
set_option maxRecDepth 100000
structure GM where
  id : By
  tp : List By
  heard : Int
  joined : Bool
  synced : Bool
structure GG where
  session : Int
  rebalance : Int
  round : Bool
  state : Int
  gen : Int
  given : Int
  now : Int
  since : Int
  all : List Top
  l : List GM
  shares : DD
noncomputable def sharesOf (round : Bool) (l : List (By × List By)) (all : List Top) : DD := resD (if round then roundA else rangeA) (l.map fun p => (⟨p.1, some p.2⟩ : Mem)) all
namespace GG
def enter (g : GG) (st : Int) : GG := { g with state := st, since := g.now }
def prepares (g : GG) : GG := if g.l = [] then g.enter 1 else { g.enter 2 with l := g.l.map fun m => { m with joined := false } }
def over (g : GG) : Bool := decide (g.rebalance ≤ g.now - g.since)
def outs (g : GG) (p : GM → Bool) : GG := { g with l := g.l.filter fun m => !p m }
def any (g : GG) (p : GM → Bool) : Bool := g.l.any p
noncomputable def forms1 (g : GG) : GG :=
  let g1 := g.outs fun m => !m.joined
  if g1.l = [] then g1.enter 1 else
  { g1 with gen := g1.gen + 1, state := 3, since := g1.now, l := g1.l.map fun m => { m with synced := false }, shares := sharesOf g1.round (g1.l.map fun m => (m.id, m.tp)) g1.all }
noncomputable def forms (g : GG) : GG := if g.state = 2 ∧ (g.l.all (·.joined) || g.over) = true then g.forms1 else g
noncomputable def goes1 (g : GG) : GG :=
  let g2 := g.outs fun m => decide (g.session < g.now - m.heard)
  let g3 := if ((g.any fun m => decide (g.session < g.now - m.heard)) && !decide (g2.state = 2)) = true then g2.prepares else g2
  let g4 := if g3.state = 2 ∧ g3.l = [] then g3.enter 1 else g3
  g4.forms
def goes2 (g : GG) : GG := if g.state = 3 ∧ g.over = true ∧ (g.any fun m => !m.synced) = true then (g.outs fun m => !m.synced).prepares else g
noncomputable def goes (g : GG) (now : Int) : GG := { g with now := max g.now now }.goes1.goes2
noncomputable def tick (g : GG) (all : List Top) (now : Int) : GG := { g with all := all }.goes now
end GG
def gmC (m : GM) : List HV := [strV m.id, rowL strC 1 m.tp, .lit (.int .i64 m.heard), .lit (.bool m.joined), .lit (.bool m.synced)]
def gC (G : GG) (all A : HV) (o : Option DD) : List HV := [.lit (.int .i64 G.session), .lit (.int .i64 G.rebalance), .lit (.bool G.round), .lit (.int .i64 G.state), .lit (.int .i64 G.gen), .lit (.int .i64 G.given), .lit (.int .i64 G.now), .lit (.int .i64 G.since), all, A, rowV shE 2 o]
def pC (p : Nat × GM) : List HV := [.ptr p.1 0]
theorem pC_len (p : Nat × GM) : (pC p).length = 1 := rfl
def gm0 : GM := ⟨[], [], 0, false, false⟩
def p0 : Nat × GM := (0, gm0)
/-- A group, in memory: over what lies still (b). -/
structure GSt (b s : HS) (g : Nat) (G : GG) (all A : HV) (ps : List (Nat × GM)) (o : Option DD) : Prop where
  le : HS.le b s
  free : b g = none
  at_ : s g = some (.cells (gC G all A o))
  acc : AccX b s 1 A ps.length (rows pC ps)
  accg : accId A ≠ some g
  mem : ∀ p ∈ ps, b p.1 = none ∧ s p.1 = some (.cells (gmC p.2)) ∧ p.1 ≠ g ∧ accId A ≠ some p.1
  nodup : (ps.map Prod.fst).Nodup
  l : G.l = ps.map Prod.snd
  sh : o.getD [] = G.shares
def IsG (b s : HS) (g : Nat) (G : GG) : Prop := ∃ b' all A ps o, HS.le b b' ∧ RowV b' 2 all G.all.length (rows topC G.all) ∧ GSt b' s g G all A ps o
theorem IsG.base {b b' s : HS} {g : Nat} {G : GG} (h : IsG b s g G) (hle : HS.le b' b) : IsG b' s g G := by
  obtain ⟨c, all, A, ps, o, h1, h2, h3⟩ := h
  exact ⟨c, all, A, ps, o, HS.le.trans hle h1, h2, h3⟩
theorem IsG.le {b s : HS} {g : Nat} {G : GG} (h : IsG b s g G) : HS.le b s := by
  obtain ⟨c, all, A, ps, o, h1, h2, h3⟩ := h
  exact HS.le.trans h1 h3.le
theorem GSt.mono {b s t : HS} {g : Nat} {G : GG} {all A : HV} {ps : List (Nat × GM)} {o : Option DD} (h : GSt b s g G all A ps o) (hle : HS.le s t) : GSt b t g G all A ps o :=
  ⟨HS.le.trans h.le hle, h.free, hle _ _ h.at_, h.acc.le hle, h.accg, fun p hp => let ⟨h1, h2, h3⟩ := h.mem p hp; ⟨h1, hle _ _ h2, h3⟩, h.nodup, h.l, h.sh⟩
theorem IsG.mono {b s t : HS} {g : Nat} {G : GG} (h : IsG b s g G) (hle : HS.le s t) : IsG b t g G := by
  obtain ⟨c, all, A, ps, o, h1, h2, h3⟩ := h
  exact ⟨c, all, A, ps, o, h1, h2, h3.mono hle⟩
theorem GSt.len {b s : HS} {g : Nat} {G : GG} {all A : HV} {ps : List (Nat × GM)} {o : Option DD} (h : GSt b s g G all A ps o) : G.l.length = ps.length := by rw [h.l, List.length_map]
theorem GSt.nil {b s : HS} {g : Nat} {G : GG} {all A : HV} {ps : List (Nat × GM)} {o : Option DD} (h : GSt b s g G all A ps o) : G.l = [] ↔ ps = [] := by
  rw [h.l, List.map_eq_nil_iff]
/-- Something new, elsewhere, may be counted to what lies still. -/
theorem GSt.grow {b s : HS} {g : Nat} {G : GG} {all A : HV} {ps : List (Nat × GM)} {o : Option DD} (h : GSt b s g G all A ps o) {k : Nat} (hk : s k = none) (ob : HObj) : GSt (b.set k ob) (s.set k ob) g G all A ps o := by
  have hne : ∀ j o', s j = some o' → j ≠ k := fun j o' hj e => by rw [e, hk] at hj; cases hj
  refine ⟨le_setBoth h.le k ob, by rw [set_ne _ _ (hne _ _ h.at_)]; exact h.free, by rw [set_ne _ _ (hne _ _ h.at_)]; exact h.at_, ?_, h.accg, fun p hp => ?_, h.nodup, h.l, h.sh⟩
  · rcases h.acc with h1 | ⟨q, f, r, k', h1, h2, h3, h4⟩
    · exact .inl h1
    · exact .inr ⟨q, f, r, k', by rw [set_ne _ _ (hne _ _ h3)]; exact h1, h2, by rw [set_ne _ _ (hne _ _ h3)]; exact h3, h4⟩
  · obtain ⟨h1, h2, h3⟩ := h.mem p hp
    exact ⟨by rw [set_ne _ _ (hne _ _ h2)]; exact h1, by rw [set_ne _ _ (hne _ _ h2)]; exact h2, h3⟩
theorem store1 {s : HS} {g k n : Nat} {cs : List HV} {v : HV} {K : HS → Prop} (hg : s g = some (.cells cs)) (hk : k < cs.length) (hv : hcells v = some [v]) (ho : hone v = true) (hn : n = 1) (hK : K (s.set g (.cells (cs.set k v)))) : hStore s (.ptr g k) v n K := by
  subst hn
  simp only [hStore, hv, hg]
  refine ⟨rfl, hk, fun x hx => by rw [List.mem_singleton.1 hx]; exact ho, ?_⟩
  have e : putCells cs k [v] = cs.set k v := by
    unfold putCells
    rw [List.set_eq_take_append_cons_drop, if_pos hk]
    simp
  rw [e]
  exact hK
/-- The group's own fields are written. -/
theorem GSt.putG {b s : HS} {g : Nat} {G : GG} {all A : HV} {ps : List (Nat × GM)} {o : Option DD} (h : GSt b s g G all A ps o) (G' : GG) (all' : HV) (o' : Option DD) (hl : G'.l = G.l) (ho : o'.getD [] = G'.shares) : GSt b (s.set g (.cells (gC G' all' A o'))) g G' all' A ps o' :=
  ⟨le_set_free _ h.le h.free, h.free, set_at _ _ _, h.acc.put _ h.accg, h.accg, fun p hp => let ⟨h1, h2, h3, h4⟩ := h.mem p hp; ⟨h1, by rw [set_ne _ _ h3]; exact h2, h3, h4⟩, h.nodup, by rw [hl]; exact h.l, ho⟩
/-- One member is written. -/
theorem GSt.putM {b s : HS} {g : Nat} {G : GG} {all A : HV} {ps : List (Nat × GM)} {o : Option DD} (h : GSt b s g G all A ps o) {i : Nat} (hi : i < ps.length) (m : GM) (G' : GG) (hG : G' = { G with l := (ps.set i ((ps.getD i p0).1, m)).map Prod.snd }) :
    GSt b (s.set (ps.getD i p0).1 (.cells (gmC m))) g G' all A (ps.set i ((ps.getD i p0).1, m)) o := by
  subst hG
  have hg := getD_get p0 ps hi
  have hm := h.mem _ (getD_memD p0 hi)
  have hfst : (ps.set i ((ps.getD i p0).1, m)).map Prod.fst = ps.map Prod.fst := by
    rw [List.map_set]
    have : (ps.getD i p0).1 = (ps.map Prod.fst)[i]'(by simpa using hi) := by rw [hg]; simp
    rw [this, List.set_getElem_self]
  have hrow : rows pC (ps.set i ((ps.getD i p0).1, m)) = rows pC ps := by
    have e : ∀ l : List (Nat × GM), rows pC l = (l.map Prod.fst).map fun k => HV.ptr k 0 := fun l => by
      induction l with
      | nil => rfl
      | cons x r ih => rw [rows_cons, ih]; rfl
    rw [e, e, hfst]
  refine ⟨le_set_free _ h.le hm.1, h.free, by rw [set_ne _ _ (Ne.symm hm.2.2.1)]; exact h.at_, ?_, h.accg, fun p hp => ?_, by rw [hfst]; exact h.nodup, rfl, h.sh⟩
  · rw [List.length_set, hrow]
    exact h.acc.put _ hm.2.2.2
  · obtain ⟨j, hj, rfl⟩ := List.mem_iff_getElem.1 hp
    rw [List.length_set] at hj
    rw [List.getElem_set]
    split
    · exact ⟨hm.1, set_at _ _ _, hm.2.2⟩
    · rename_i hij
      obtain ⟨k1, k2, k3⟩ := h.mem _ (List.getElem_mem hj)
      refine ⟨k1, ?_, k3⟩
      rw [set_ne]
      · exact k2
      · have hgi : (ps.getD i p0).1 = ps[i].1 := by rw [hg]
        intro e0
        have e := e0.trans hgi
        have hnd := h.nodup
        unfold List.Nodup at hnd
        rw [List.pairwise_map, List.pairwise_iff_getElem] at hnd
        rcases Nat.lt_or_ge i j with h' | h'
        · exact hnd i j hi hj h' e.symm
        · exact hnd j i hj hi (by omega) e
/-- Small enough. -/
structure Bd (K : Nat) (G : GG) : Prop where
  now : 0 ≤ G.now ∧ G.now ≤ 1125899906842624
  since : 0 ≤ G.since ∧ G.since ≤ 1125899906842624
  mem : ∀ m ∈ G.l, 0 ≤ m.heard ∧ m.heard ≤ 1125899906842624 ∧ m.tp.length ≤ 1000000
  gen : 0 ≤ G.gen ∧ G.gen ≤ 2199023255552 + K
  len : G.l.length ≤ K
  all : G.all.length ≤ 1000
  sh : G.shares.length ≤ 1000000 ∧ ∀ d ∈ G.shares, d.2.length ≤ 1000000
  k : K ≤ 1000000
theorem hvNil (p o : Nat) : vNil (.ptr p o) = some (.ptr p o) := rfl
theorem hvFld (k p : Nat) : vField k (.ptr p 0) = some (.ptr p k) := by simp [vField]
section
variable {b s : HS} {g : Nat} {G : GG} {all A : HV} {ps : List (Nat × GM)} {o : Option DD}
theorem GSt.ld (h : GSt b s g G all A ps o) (k : Nat) : vLoad s (.ptr g k) 1 false = (gC G all A o)[k]? := load_cell k 1 h.at_
theorem GSt.ldm (h : GSt b s g G all A ps o) {p : Nat × GM} (hp : p ∈ ps) (k : Nat) : vLoad s (.ptr p.1 k) 1 false = (gmC p.2)[k]? := load_cell k 1 (h.mem p hp).2.1
theorem over50 (h : GSt b s g G all A ps o) {K : Nat} (hb : Bd K G) : HC Tryz.prog 66 [.ptr g 0] s (fun v t => t = s ∧ v = .lit (.bool G.over)) := by
  refine HC66 ?_
  unfold c66
  have h1 := hb.now
  have h2 := hb.since
  simp only [hvNil, hvFld, bindO, h.ld, gC, List.getElem?_cons_succ, List.getElem?_cons_zero]
  rw [sub_n (by omega) (by omega)]
  simp only [geq_n]
  exact ⟨trivial, rfl⟩
theorem enter36 (h : GSt b s g G all A ps o) (st : Int) : HC Tryz.prog 44 [.ptr g 0, .lit (.int .i64 st)] s (fun v t => GSt b t g (G.enter st) all A ps o ∧ t = s.set g (.cells (gC (G.enter st) all A o))) := by
  refine HC44 ?_
  unfold c44
  simp only [hvNil, hvFld, bindO, h.ld, gC, List.getElem?_cons_succ, List.getElem?_cons_zero]
  refine store1 h.at_ (by simp [gC]) (hc_int _ _) (ho_int _ _) rfl ?_
  refine store1 (set_at _ _ _) (by simp [gC]) (hc_int _ _) (ho_int _ _) rfl ?_
  rw [set_set]
  exact ⟨h.putG (G.enter st) all o rfl h.sh, rfl⟩
/-- slices.IndexFunc over members. -/
theorem idx46 (hA : AccX b s 1 A ps.length (rows pC ps)) (hl : ps.length ≤ 1000000) (p : Nat × GM → Bool) {a1 : HV} (hp : ∀ x ∈ ps, ∀ K : HV → HS → Prop, K (.lit (.bool (p x))) s → hcall Tryz.prog a1 [.ptr x.1 0] s K) :
    HC Tryz.prog 62 [A, a1] s (fun v t => t = s ∧ v = .lit (.int .i64 (idxI p ps))) := by
  refine HC62 ?_
  unfold c62
  rw [show vLenT (Tryz.prog.underlying 51) s A = some (.lit (.int .i64 (ps.length : Int))) from hA.len _ _]
  simp only [bindO]
  refine HLoop.ghost (σ := Nat) (fun i => [.lit (.int .i64 (i : Int))]) (fun i t => i ≤ ps.length ∧ t = s ∧ ∀ x ∈ ps.take i, p x = false) (fun i => ps.length - i) 0 rfl ⟨Nat.zero_le _, rfl, by simp⟩ ?_
  rintro i t K ⟨hi, rfl, ht⟩ hK
  simp only [List.headD_cons, lss_i]
  by_cases hlt : i < ps.length
  · obtain ⟨q, -, x1, -, x2⟩ := hA.at_ pC_len p0 .i64 hlt
    have x3 := x2 0 (by omega) 1
    rw [Nat.add_zero] at x3
    simp only [hlt, decide_true, hcond, x1, x3]
    have hm := getD_memD p0 hlt
    have hg := getD_get p0 ps hlt
    have htk := take_succ' p0 ps hlt
    simp only [pC, List.getElem?_cons_zero]
    refine hp _ hm _ ?_
    cases hpx : p (ps.getD i p0) with
    | true =>
      simp only
      refine ⟨trivial, ?_⟩
      rw [idxI_at hlt ht (by rw [← hg]; exact hpx)]
    | false =>
      simp only [inc_i hlt (by omega)]
      refine hK (i + 1) _ _ rfl ⟨hlt, rfl, fun x hx => ?_⟩ (by omega)
      rw [htk] at hx
      rcases List.mem_append.1 hx with hx | hx
      · exact ht x hx
      · rw [List.mem_singleton.1 hx]; exact hpx
  · obtain rfl : i = ps.length := by omega
    rw [List.take_length] at ht
    simp only [hlt, decide_false, hcond]
    rw [idxI_none ht]
    exact ⟨by trivial, by trivial⟩
theorem plain47 : plainFn Tryz.prog 63 = true := by unfold plainFn; rw [Tryz.func63]; rfl
theorem plain55 : plainFn Tryz.prog 71 = true := by unfold plainFn; rw [Tryz.func71]; rfl
def ptrAt (ps : List (Nat × GM)) : Option Nat → HV
  | some i => .ptr (ps.getD i p0).1 0
  | none => .lit (.pointer none)
def GG.at_ (G : GG) (id : By) : Option Nat := G.l.findIdx? fun m => decide (m.id = id)
theorem GSt.idx (h : GSt b s g G all A ps o) (id : By) : G.at_ id = ps.findIdx? fun p => decide (p.2.id = id) := by
  unfold GG.at_
  rw [h.l, List.findIdx?_map]
  rfl
theorem find27 (h : GSt b s g G all A ps o) (hl : ps.length ≤ 1000000) (id : By) : HC Tryz.prog 35 [.ptr g 0, strV id] s (fun v t => t = s ∧ v = ptrAt ps (G.at_ id)) := by
  refine HC.weaken (HC35 ?_)
  unfold c35
  refine hbox_intro (hc_string _) fun x1 hx1 => ?_
  have hle := le_set_new (.cells [strV id]) (le_refl' s) hx1
  have e1 := set_at s x1 (.cells [strV id])
  have h1 := h.mono hle
  change HS.le s (s.set x1 (.cells [HV.lit (.string ⟨id.toArray⟩)])) at hle
  change (s.set x1 (.cells [HV.lit (.string ⟨id.toArray⟩)])) x1 = some (.cells [strV id]) at e1
  change GSt b (s.set x1 (.cells [HV.lit (.string ⟨id.toArray⟩)])) g G all A ps o at h1
  generalize s.set x1 (.cells [HV.lit (.string ⟨id.toArray⟩)]) = s1 at *
  simp only [hvNil, hvFld, bindO, h1.ld, gC, List.getElem?_cons_succ, List.getElem?_cons_zero]
  rw [h.idx id]
  refine (idx46 h1.acc hl (fun p => decide (p.2.id = id)) (fun x hx K hK => ?_)).mono ?_
  · simp only [hcall, hite_eq, plain47, if_true, List.cons_append, List.nil_append]
    refine HC63 ?_
    unfold c63
    simp only [hvNil, hvFld, bindO, h1.ldm hx, gmC, List.getElem?_cons_zero]
    rw [show vLoad s1 (.ptr x1 0) 1 false = some (strV id) from load_cell 0 1 e1]
    simp only [eql_s]
    exact hK
  · rintro v t ⟨rfl, rfl⟩
    simp only [lss_n]
    cases hf : ps.findIdx? fun p : Nat × GM => decide (p.2.id = id) with
    | none =>
      have : idxI (fun p : Nat × GM => decide (p.2.id = id)) ps = -1 := by simp [idxI, hf]
      rw [this]
      exact ⟨s, hle, rfl, rfl⟩
    | some i =>
      have : idxI (fun p : Nat × GM => decide (p.2.id = id)) ps = (i : Int) := by simp [idxI, hf]
      have hi : i < ps.length := (List.findIdx?_eq_some_iff_getElem.1 hf).1
      rw [this, show decide (((i : Nat) : Int) < 0) = false from by simp]
      obtain ⟨q, -, x1', -, x2⟩ := h1.acc.at_ pC_len p0 .i64 hi
      have x3 := x2 0 (by omega) 1
      rw [Nat.add_zero] at x3
      simp only [hcond, h1.ld, gC, List.getElem?_cons_succ, List.getElem?_cons_zero, x1', x3, pC]
      exact ⟨s, hle, rfl, rfl⟩
/-- Whether something holds of all members. -/
theorem each34 (h : GSt b s g G all A ps o) (hl : ps.length ≤ 1000000) (f : GM → Bool) {fn : Nat} {fcaps : List HV} (hf : ∀ t, HS.le s t → ∀ x ∈ ps, ∀ K : HV → HS → Prop, K (.lit (.bool (f x.2))) t → hcall Tryz.prog (.func (.func fn) fcaps) [.ptr x.1 0] t K) :
    HC Tryz.prog 42 [.ptr g 0, .func (.func fn) fcaps] s (fun v t => t = s ∧ v = .lit (.bool (G.l.all f))) := by
  refine HC.weaken (HC42 ?_)
  unfold c42
  refine hbox_intro (hc_func _ _) fun x1 hx1 => ?_
  have hle := le_set_new (.cells [.func (.func fn) fcaps]) (le_refl' s) hx1
  have e1 := set_at s x1 (.cells [.func (.func fn) fcaps])
  have h1 := h.mono hle
  generalize s.set x1 (.cells [.func (.func fn) fcaps]) = s1 at *
  simp only [hvNil, hvFld, bindO, h1.ld, gC, List.getElem?_cons_succ, List.getElem?_cons_zero]
  refine HC.mono (Q := fun v t => t = s1 ∧ v = .lit (.bool (ps.any fun x => !f x.2))) ?_ ?_
  · refine HC70 ?_
    unfold c70
    refine (idx46 h1.acc hl (fun p => !f p.2) (fun x hx K hK => ?_)).mono ?_
    · simp only [hcall, hite_eq, plain55, if_true, List.cons_append, List.nil_append]
      refine HC71 ?_
      unfold c71
      rw [show vLoad s1 (.ptr x1 0) 1 false = some (.func (.func fn) fcaps) from load_cell 0 1 e1]
      simp only [bindO]
      exact hf s1 hle x hx _ hK
    · rintro v t ⟨rfl, rfl⟩
      simp only [geq_n, bindO]
      refine ⟨trivial, ?_⟩
      congr 2
      rcases idxI_cases (fun p : Nat × GM => !f p.2) ps with ⟨k1, k2⟩ | ⟨i, k1, k2, k3, k4⟩
      · rw [k1, List.any_eq_false.2 fun x hx => by rw [k2 x hx]; simp]; rfl
      · rw [k2, List.any_eq_true.2 ⟨_, List.getElem_mem k1, k3⟩]; simp
  · rintro v t ⟨rfl, rfl⟩
    simp only [vUn, bindO]
    refine ⟨s, hle, rfl, ?_⟩
    congr 2
    rw [h.l, Bool.eq_iff_iff]
    simp
/-- slices.DeleteFunc over members. -/
theorem del58 (hA : AccX b s 1 A ps.length (rows pC ps)) (hle : HS.le b s) (hl : ps.length ≤ 1000000) (p : Nat × GM → Bool) {a1 : HV} (hp : ∀ t, (∀ k ob, accId A ≠ some k → s k = some ob → t k = some ob) → ∀ x ∈ ps, ∀ K : HV → HS → Prop, K (.lit (.bool (p x))) t → hcall Tryz.prog a1 [.ptr x.1 0] t K) :
    HC Tryz.prog 76 [A, a1] s (fun v t => AccX b t 1 v (ps.filter fun x => !p x).length (rows pC (ps.filter fun x => !p x)) ∧ HS.le b t ∧ accId v = accId A ∧ ∀ k ob, accId A ≠ some k → s k = some ob → t k = some ob) := by
  refine HC76 ?_
  unfold c76
  refine (idx46 hA hl p (fun x hx K hK => hp s (fun _ _ _ h => h) x hx K hK)).mono ?_
  rintro v t ⟨rfl, rfl⟩
  simp only [eql_n, bindO]
  rcases idxI_cases p ps with ⟨hi, hall⟩ | ⟨i0, hi0, hi, hpi, hbef⟩
  · rw [hi]
    simp only [decide_true, hcond]
    have e1 : (ps.filter fun x => !p x) = ps := List.filter_eq_self.2 fun x hx => by simp [hall x hx]
    rw [e1]
    exact ⟨hA, hle, trivial, fun _ _ _ h => h⟩
  · rw [hi]
    rw [show decide (((i0 : Nat) : Int) = -1) = false from by rw [decide_eq_false_iff_not]; omega]
    simp only [hcond, inc_i hi0 (by omega)]
    rcases hA with ⟨-, -, h0⟩ | ⟨q, f, rest, k0, h1, rfl, h3, h4, h5⟩
    · omega
    have hst : (ps.take (i0 + 1)).filter (fun x => !p x) = ps.take i0 := by
      rw [take_succ' p0 ps hi0, getD_get p0 ps hi0, List.filter_append, List.filter_eq_self.2 fun x hx => by simp [hbef x hx]]
      simp [hpi]
    have lenq : ∀ u, vLenT (Tryz.prog.underlying 51) u (.view q 0 1 ps.length f) = some (.lit (.int .i64 (ps.length : Int))) := fun u => rfl
    simp only [lenq]
    refine HLoop.ghost (σ := Nat × Nat × List (Nat × GM)) (fun G => [.lit (.int .i64 (G.1 : Int)), .lit (.int .i64 (G.2.1 : Int))])
      (fun G u => G.1 < G.2.1 ∧ G.2.1 ≤ ps.length ∧ G.2.2.length = ps.length ∧ G.2.2.take G.1 = (ps.take G.2.1).filter (fun x => !p x) ∧ G.2.2.drop G.2.1 = ps.drop G.2.1 ∧ u q = some (.cells (rows pC G.2.2 ++ rest)) ∧ HS.le (t.del q) u)
      (fun G => ps.length - G.2.1) (i0, i0 + 1, ps) rfl ⟨Nat.lt_succ_self _, hi0, rfl, hst.symm, rfl, h3, le_del t q⟩ ?_
    rintro ⟨i, j, M⟩ u K ⟨g1, g2, g3, g4, g5, g6, g7⟩ hK
    simp only at g1 g2 g3 g4 g5 g6 g7
    simp only [List.headD_cons, List.tail_cons, lss_i]
    have hsq : (t.del q) q = none := del_at t q
    have hkeep : ∀ u', HS.le (t.del q) u' → ∀ k ob, accId (.view q 0 1 ps.length f) ≠ some k → t k = some ob → u' k = some ob := fun u' hu k ob hk ht => hu k ob (by rw [del_ne _ (fun e => hk (by rw [e]; rfl))]; exact ht)
    by_cases hlt : j < ps.length
    · have hjM : j < M.length := by omega
      have hMj : M.getD j p0 = ps[j] := by
        rw [drop_cons' p0 M hjM, drop_cons' p0 ps hlt, getD_get p0 ps hlt] at g5
        exact (List.cons.inj g5).1
      have hdr : M.drop (j + 1) = ps.drop (j + 1) := by
        rw [drop_cons' p0 M hjM, drop_cons' p0 ps hlt] at g5
        exact (List.cons.inj g5).2
      have htk := take_succ' p0 ps hlt
      rw [getD_get p0 ps hlt] at htk
      have hmem : ps[j] ∈ ps := List.getElem_mem hlt
      have lj := load_rows1 pC_len p0 g6 hjM (j := 0) (n := 1) (by omega)
      rw [Nat.add_zero, hMj] at lj
      generalize ps[j] = x at *
      simp only [hlt, decide_true, idx_view _ hlt, Nat.zero_add, lj, pC, List.getElem?_cons_zero]
      refine Join.of (fun xs t' => ∃ i' M', xs = [.lit (.int .i64 ((i' : Nat) : Int))] ∧ i' < j + 1 ∧ M'.length = ps.length ∧ M'.take i' = (ps.take (j + 1)).filter (fun x => !p x) ∧ M'.drop (j + 1) = ps.drop (j + 1) ∧ t' q = some (.cells (rows pC M' ++ rest)) ∧ HS.le (t.del q) t') ?_ ?_
      · rintro xs t' ⟨i', M', rfl, k1, k2, k3, k4, k5, k6⟩
        simp only [List.headD_cons, inc_i hlt (by omega)]
        exact hK (i', j + 1, M') _ _ rfl ⟨k1, hlt, k2, k3, k4, k5, k6⟩ (by show ps.length - (j + 1) < ps.length - j; omega)
      · intro K10 hK10
        refine hp u (hkeep u g7) x hmem _ ?_
        cases hpx : p x with
        | true =>
          simp only [vUn, Bool.not_true]
          exact hK10 _ _ ⟨i, M, rfl, by omega, g3, by rw [htk, List.filter_append, g4]; simp [hpx], hdr, g6, g7⟩
        | false =>
          simp only [vUn, Bool.not_false, idx_view _ (show i < ps.length by omega), Nat.zero_add, Nat.mul_one]
          have hput := put_rows pC_len x rest M i (by omega)
          simp only [hStore, hc_ptr, g6]
          refine ⟨by trivial, by rw [List.length_append, rows_len pC_len]; omega, fun y hy => by rw [List.mem_singleton.1 hy]; rfl, ?_⟩
          rw [Nat.mul_one] at hput
          rw [show [HV.ptr x.1 0] = pC x from rfl, hput]
          simp only [inc_i (show i < ps.length by omega) (by omega)]
          refine hK10 _ _ ⟨i + 1, M.set i x, rfl, by omega, by rw [List.length_set]; exact g3, ?_, ?_, set_at _ _ _, le_set_free _ g7 hsq⟩
          · rw [take_succ' p0 (M.set i x) (by rw [List.length_set]; omega), getD_get p0 _ (by rw [List.length_set]; omega), List.getElem_set_self, List.take_set_of_le (Nat.le_refl _), g4, htk, List.filter_append]
            simp [hpx]
          · rw [List.drop_set_of_lt (by omega)]
            exact hdr
    · obtain rfl : j = ps.length := by omega
      rw [List.take_length] at g4
      have hi2 : i = (ps.filter fun x => !p x).length := by rw [← g4, List.length_take]; omega
      simp only [hlt, decide_false, slice_view_lo _ (show i ≤ ps.length by omega), slice_view_hi _ (show i ≤ ps.length by omega)]
      have hct := fun (K : HS → Prop) hK => clear_tail (K := K) (enc := pC) (z := .pointer none) (q := q) (l := M) (rest := rest) (i := i) (f := f) (s := u) pC_len (by omega) rfl g6 (by omega) hK
      rw [g3] at hct
      refine hct _ fun rest' => ?_
      rw [g4]
      have hb : HS.le b (t.del q) := fun k ob hk => by
        rw [del_ne _ (fun e => by rw [e, h1] at hk; cases hk)]
        exact hle k ob hk
      refine ⟨.inr ⟨q, f && i == ps.length, rest', rest'.length, h1, by rw [← hi2], set_at _ _ _, by rw [rows_len pC_len], by omega⟩, ?_, rfl, fun k ob hk ht => ?_⟩
      · exact le_set_free _ (HS.le.trans hb g7) h1
      · have hkq : k ≠ q := fun e => hk (by rw [e]; rfl)
        rw [set_ne _ _ hkq]
        exact hkeep u g7 k ob hk ht
end
end Go.Proofs.YtkcgokkgefgcjaaGreatDoor.AS
end
section
namespace Go.Proofs.YtkcgokkgefgcjaaGreatDoor.AS
open Go.Proofs.YtkcgokkgefgcjaaGreatDoor.H Go.Proofs.YtkcgokkgefgcjaaGreatDoor.G0 Go.Proofs.YtkcgokkgefgcjaaGreatDoor.G1
set_option linter.unusedVariables false
set_option linter.unusedSimpArgs false
set_option maxRecDepth 100000
section
variable {b s : HS} {g : Nat} {G : GG} {all A : HV} {ps : List (Nat × GM)} {o : Option DD}
theorem GSt.base {b' : HS} (h : GSt b s g G all A ps o) (hle : HS.le b' b) : GSt b' s g G all A ps o :=
  ⟨HS.le.trans hle h.le, none_of_le hle h.free, h.at_, h.acc.base hle, h.accg, fun p hp => let ⟨h1, h2⟩ := h.mem p hp; ⟨none_of_le hle h1, h2⟩, h.nodup, h.l, h.sh⟩
theorem GSt.keep {t : HS} (h : GSt b s g G all A ps o) (hb : HS.le b t) (hk : ∀ k ob, (k = g ∨ accId A = some k ∨ ∃ p ∈ ps, p.1 = k) → s k = some ob → t k = some ob) : GSt b t g G all A ps o :=
  ⟨hb, h.free, hk _ _ (.inl rfl) h.at_, h.acc.keep fun q ob hq => hk q ob (.inr (.inl hq)), h.accg, fun p hp => let ⟨h1, h2, h3⟩ := h.mem p hp; ⟨h1, hk _ _ (.inr (.inr ⟨p, hp, rfl⟩)) h2, h3⟩, h.nodup, h.l, h.sh⟩
theorem any_len (p : GM → Bool) (l : List GM) : ((l.filter fun x => !p x).length < l.length) ↔ l.any p = true := by
  induction l with
  | nil => simp
  | cons x l ih =>
    have := List.length_filter_le (fun x => !p x) l
    rw [List.filter_cons, List.any_cons]
    cases p x
    · simp only [Bool.not_false, if_true, List.length_cons, Nat.add_lt_add_iff_right, Bool.false_or]; exact ih
    · simp; omega
theorem outs41 (h : GSt b s g G all A ps o) (hl : ps.length ≤ 1000000) (f : GM → Bool) {fn : Nat} {fcaps : List HV}
    (hf : ∀ t, (∀ k ob, accId A ≠ some k → s k = some ob → t k = some ob) → ∀ x ∈ ps, ∀ K : HV → HS → Prop, K (.lit (.bool (f x.2))) t → hcall Tryz.prog (.func (.func fn) fcaps) [.ptr x.1 0] t K) :
    HC Tryz.prog 55 [.ptr g 0, .func (.func fn) fcaps] s (fun v t => v = .lit (.bool (G.any f)) ∧ ∃ A', GSt b t g (G.outs f) all A' (ps.filter fun x => !f x.2) o) := by
  refine HC55 ?_
  unfold c55
  simp only [hvNil, hvFld, bindO, h.ld, gC, List.getElem?_cons_succ, List.getElem?_cons_zero]
  rw [show vLenT (Tryz.prog.underlying 51) s A = some (.lit (.int .i64 (ps.length : Int))) from h.acc.len _ _]
  simp only
  refine (del58 h.acc h.le hl (fun x => f x.2) hf).mono ?_
  rintro v t ⟨g1, g2, g3, g4⟩
  have ag : t g = some (.cells (gC G all A o)) := g4 _ _ h.accg h.at_
  have hGst : GSt b (t.set g (.cells (gC (G.outs f) all v o))) g (G.outs f) all v (ps.filter fun x => !f x.2) o := by
    refine ⟨le_set_free _ g2 h.free, h.free, set_at _ _ _, g1.put _ (by rw [g3]; exact h.accg), by rw [g3]; exact h.accg, fun p hp => ?_, ?_, ?_, h.sh⟩
    · obtain ⟨h1, h2, h3, h4⟩ := h.mem p (List.mem_filter.1 hp).1
      exact ⟨h1, by rw [set_ne _ _ h3]; exact g4 _ _ h4 h2, h3, by rw [g3]; exact h4⟩
    · exact h.nodup.sublist ((List.filter_sublist (p := fun x : Nat × GM => !f x.2) (l := ps)).map Prod.fst)
    · show G.l.filter _ = _
      rw [h.l, List.filter_map]
      rfl
  refine store1 ag (by simp [gC]) g1.hc g1.one rfl ?_
  rw [show (gC G all A o).set 9 v = gC (G.outs f) all v o from rfl]
  generalize t.set g (.cells (gC (G.outs f) all v o)) = u at hGst ⊢
  simp only [hGst.ld, gC, List.getElem?_cons_succ, List.getElem?_cons_zero]
  rw [show vLenT (Tryz.prog.underlying 51) u v = some (.lit (.int .i64 (((ps.filter fun x => !f x.2).length : Nat) : Int))) from g1.len _ _]
  simp only [lss_i]
  refine ⟨?_, v, hGst⟩
  congr 2
  have e := any_len f G.l
  rw [h.l, List.filter_map, List.length_map, List.length_map] at e
  rw [Bool.eq_iff_iff, decide_eq_true_eq]
  unfold GG.any
  rw [h.l]
  exact e
/-- The first i members are changed. -/
def mapT (f : GM → GM) (i : Nat) (ps : List (Nat × GM)) : List (Nat × GM) := (ps.take i).map (fun p => (p.1, f p.2)) ++ ps.drop i
theorem mapT_len (f : GM → GM) (i : Nat) (ps : List (Nat × GM)) : (mapT f i ps).length = ps.length := by
  simp [mapT]; omega
theorem mapT_at (f : GM → GM) {i : Nat} (ps : List (Nat × GM)) (hi : i < ps.length) : (mapT f i ps).getD i p0 = ps.getD i p0 := by
  unfold mapT
  rw [List.getD, List.getElem?_append_right (by simp; omega)]
  simp only [List.length_map, List.length_take, Nat.min_eq_left (Nat.le_of_lt hi), Nat.sub_self, List.getElem?_drop, Nat.add_zero]
  rfl
theorem mapT_succ (f : GM → GM) {i : Nat} (ps : List (Nat × GM)) (hi : i < ps.length) : mapT f (i + 1) ps = (mapT f i ps).set i ((ps.getD i p0).1, f (ps.getD i p0).2) := by
  unfold mapT
  rw [take_succ' p0 ps hi, List.map_append, List.set_append_right _ _ (by simp; omega)]
  simp only [List.length_map, List.length_take, Nat.min_eq_left (Nat.le_of_lt hi), Nat.sub_self]
  rw [drop_cons' p0 ps hi, List.set_cons_zero, List.append_assoc]
  rfl
theorem mapT_all (f : GM → GM) (ps : List (Nat × GM)) : mapT f ps.length ps = ps.map fun p => (p.1, f p.2) := by simp [mapT]
theorem mapT_zero (f : GM → GM) (ps : List (Nat × GM)) : mapT f 0 ps = ps := by simp [mapT]
theorem mapT_fst (f : GM → GM) (i : Nat) (ps : List (Nat × GM)) : (mapT f i ps).map Prod.fst = ps.map Prod.fst := by
  conv => rhs; rw [← List.take_append_drop i ps]
  simp [mapT, List.map_append, Function.comp_def]
theorem neq_i3 (a c : Int) : vCmp (Tryz.prog.underlying 3) .neq (.lit (.int .i64 a)) (.lit (.int .i64 c)) = some (.lit (.bool (!decide (a = c)))) := by
  simp only [vCmp, vBin, if_true, Option.some.injEq, HV.lit.injEq, Value.bool.injEq, bne]
  congr 1
theorem prepares31 (h : GSt b s g G all A ps o) (hl : ps.length ≤ 1000000) : HC Tryz.prog 39 [.ptr g 0] s (fun v t => ∃ ps', GSt b t g G.prepares all A ps' o ∧ ps'.map Prod.fst = ps.map Prod.fst) := by
  refine HC39 ?_
  unfold c39
  simp only [hvNil, hvFld, bindO, h.ld, gC, List.getElem?_cons_succ, List.getElem?_cons_zero]
  rw [show vLenT (Tryz.prog.underlying 51) s A = some (.lit (.int .i64 (ps.length : Int))) from h.acc.len _ _]
  simp only [eql_n]
  by_cases hn : ps = []
  · subst hn
    rw [show decide (((([] : List (Nat × GM)).length : Nat) : Int) = 0) = true from rfl]
    simp only [hcond]
    refine (enter36 h 1).mono ?_
    rintro v t ⟨h1, -⟩
    refine ⟨[], ?_, rfl⟩
    have : G.prepares = G.enter 1 := by unfold GG.prepares; rw [if_pos (h.nil.2 rfl)]
    rw [this]
    exact h1
  · have hpos : 0 < ps.length := List.length_pos_iff.2 hn
    rw [show decide (((ps.length : Nat) : Int) = 0) = false from by rw [decide_eq_false_iff_not]; omega]
    simp only [hcond]
    refine (enter36 h 2).mono ?_
    rintro v t ⟨h1, -⟩
    have hA : ∀ u, vLenT (Tryz.prog.underlying 51) u A = some (.lit (.int .i64 (ps.length : Int))) := fun u => h.acc.len _ _
    simp only [h1.ld, gC, List.getElem?_cons_succ, List.getElem?_cons_zero, hA]
    refine HLoop.ghost (σ := Nat) (fun i => [.lit (.int .i64 (i : Int))]) (fun i u => i ≤ ps.length ∧ GSt b u g { G.enter 2 with l := (mapT (fun m => { m with joined := false }) i ps).map Prod.snd } all A (mapT (fun m => { m with joined := false }) i ps) o) (fun i => ps.length - i) 0 rfl ⟨Nat.zero_le _, ?_⟩ ?_
    · rw [mapT_zero]
      have := h1.l
      change G.l = _ at this
      show GSt b t g { G.enter 2 with l := ps.map Prod.snd } all A ps o
      rw [← this]
      exact h1
    rintro i u K ⟨hi, hu⟩ hK
    simp only [List.headD_cons, lss_i]
    by_cases hlt : i < ps.length
    · have hlt' : i < (mapT (fun m => { m with joined := false }) i ps).length := by rw [mapT_len]; exact hlt
      obtain ⟨q, -, x1, -, x2⟩ := hu.acc.at_ pC_len p0 .i64 hlt'
      have x3 := x2 0 (by omega) 1
      rw [Nat.add_zero] at x3
      have hpu := fun m G' hG => hu.putM hlt' m G' hG
      have hm := getD_memD p0 hlt'
      rw [mapT_at _ _ hlt] at x3 hpu hm
      simp only [hlt, decide_true, x1, x3, pC, List.getElem?_cons_zero, hvNil, hvFld]
      refine store1 (hu.mem _ hm).2.1 (by simp [gmC]) (hc_bool _) (ho_bool _) rfl ?_
      simp only [inc_i hlt (by omega)]
      refine hK (i + 1) _ _ rfl ⟨hlt, ?_⟩ (by omega)
      rw [mapT_succ _ _ hlt]
      exact hpu { (ps.getD i p0).2 with joined := false } _ rfl
    · obtain rfl : i = ps.length := by omega
      simp only [hlt, decide_false]
      refine ⟨mapT (fun m => { m with joined := false }) ps.length ps, ?_, mapT_fst _ _ _⟩
      have e : G.prepares = { G.enter 2 with l := (mapT (fun m => { m with joined := false }) ps.length ps).map Prod.snd } := by
        unfold GG.prepares
        rw [if_neg (fun hh => hn (h.nil.1 hh)), mapT_all, h.l]
        simp [List.map_map, Function.comp_def]
      rw [e]
      exact hu
theorem plain49 : plainFn Tryz.prog 65 = true := by unfold plainFn; rw [Tryz.func65]; rfl
theorem plain51 : plainFn Tryz.prog 67 = true := by unfold plainFn; rw [Tryz.func67]; rfl
theorem plain56 : plainFn Tryz.prog 77 = true := by unfold plainFn; rw [Tryz.func77]; rfl
theorem plain57 : plainFn Tryz.prog 78 = true := by unfold plainFn; rw [Tryz.func78]; rfl
/-- Who has joined is there still. -/
def Kp (ps ps' : List (Nat × GM)) : Prop := ∀ p ∈ ps, p.2.joined = true → ∃ p' ∈ ps', p'.1 = p.1 ∧ p'.2.id = p.2.id
theorem forms32 (h : GSt b s g G all A ps o) (hall : RowV b 2 all G.all.length (rows topC G.all)) {K : Nat} (hb : Bd K G) : HC Tryz.prog 40 [.ptr g 0] s (fun v t => ∃ A' ps' o', GSt b t g G.forms all A' ps' o' ∧ Kp ps ps') := by
  have hlen : ps.length ≤ 1000000 := by have h1 := hb.len; have h2 := hb.k; rw [h.len] at h1; omega
  refine HC40 ?_
  unfold c40
  simp only [hvNil, hvFld, bindO, h.ld, gC, List.getElem?_cons_succ, List.getElem?_cons_zero, neq_i3]
  by_cases hst : G.state = 2
  case neg =>
    simp only [hst, decide_false, Bool.not_false, hcond]
    refine ⟨A, ps, o, ?_, fun p hp _ => ⟨p, hp, rfl, rfl⟩⟩
    have : G.forms = G := by unfold GG.forms; rw [if_neg (fun hh => hst hh.1)]
    rw [this]; exact h
  simp only [hst, decide_true, Bool.not_true, hcond]
  refine Join.of (fun xs t => t = s ∧ xs = [.lit (.bool (!(G.l.all (·.joined) || G.over)))]) ?_ ?_
  rotate_left
  · intro K5 hK5
    refine (each34 h hlen (·.joined) (fn := 65) (fcaps := []) (fun t ht x hx K hK => ?_)).mono ?_
    · have h1 := h.mono ht
      simp only [hcall, hite_eq, plain49, if_true, List.append_nil]
      refine HC65 ?_
      unfold c65
      simp only [hvNil, hvFld, bindO, h1.ldm hx, gmC, List.getElem?_cons_succ, List.getElem?_cons_zero]
      exact hK
    · rintro v t ⟨rfl, rfl⟩
      simp only [vUn]
      cases hj : G.l.all (·.joined) with
      | true =>
        simp only [Bool.not_true]
        exact hK5 _ _ ⟨rfl, by rw [hj]; rfl⟩
      | false =>
        simp only [Bool.not_false]
        refine (over50 h hb).mono ?_
        rintro v t ⟨rfl, rfl⟩
        simp only
        exact hK5 _ _ ⟨rfl, by rw [hj]; rfl⟩
  rintro _ t ⟨rfl, rfl⟩
  simp only [List.headD_cons]
  cases hc : G.l.all (·.joined) || G.over with
  | false =>
    simp only [Bool.not_false]
    refine ⟨A, ps, o, ?_, fun p hp _ => ⟨p, hp, rfl, rfl⟩⟩
    have : G.forms = G := by unfold GG.forms; rw [if_neg (fun hh => by rw [hc] at hh; cases hh.2)]
    rw [this]; exact h
  | true =>
    have hform : G.forms = G.forms1 := by unfold GG.forms; rw [if_pos ⟨hst, hc⟩]
    rw [hform]
    simp only [Bool.not_true]
    refine (outs41 h hlen (fun m => !m.joined) (fn := 67) (fcaps := []) (fun u hu x hx K hK => ?_)).mono ?_
    · obtain ⟨m1, m2, m3, m4⟩ := h.mem x hx
      have e : vLoad u (.ptr x.1 3) 1 false = (gmC x.2)[3]? := load_cell 3 1 (hu _ _ m4 m2)
      simp only [hcall, hite_eq, plain51, if_true, List.append_nil]
      refine HC67 ?_
      unfold c67
      simp only [hvNil, hvFld, bindO, e, gmC, List.getElem?_cons_succ, List.getElem?_cons_zero, vUn]
      exact hK
    · rintro v u ⟨rfl, A1, h1⟩
      have hq1len : (ps.filter fun x => !(!x.2.joined)).length ≤ ps.length := List.length_filter_le _ _
      have hmem1 : ∀ m ∈ (G.outs fun m => !m.joined).l, m ∈ G.l := fun m hm => (List.mem_filter.1 hm).1
      have hf1 : ∀ G1, G1 = (G.outs fun m => !m.joined) → G.forms1 = if G1.l = [] then G1.enter 1 else { G1 with gen := G1.gen + 1, state := 3, since := G1.now, l := G1.l.map fun m => { m with synced := false }, shares := sharesOf G1.round (G1.l.map fun m => (m.id, m.tp)) G1.all } := fun G1 e => by subst e; rfl
      have hb1 : ∀ G1, G1 = (G.outs fun m => !m.joined) → G1.all = G.all ∧ G1.gen = G.gen := fun G1 e => by subst e; exact ⟨rfl, rfl⟩
      obtain ⟨G1, hG1⟩ : ∃ G1, G1 = (G.outs fun m => !m.joined) := ⟨_, rfl⟩
      obtain ⟨ps1, hps1⟩ : ∃ ps1, (ps.filter fun x => !(!x.2.joined)) = ps1 := ⟨_, rfl⟩
      have hf1 := hf1 G1 hG1
      obtain ⟨e_all, e_gen⟩ := hb1 G1 hG1
      rw [← hG1] at h1 hmem1
      rw [hps1] at h1 hq1len
      have hA1 : ∀ w, vLenT (Tryz.prog.underlying 51) w A1 = some (.lit (.int .i64 (ps1.length : Int))) := fun w => h1.acc.len _ _
      simp only [h1.ld, gC, List.getElem?_cons_succ, List.getElem?_cons_zero, hA1, eql_n]
      by_cases hn : ps1 = []
      · subst hn
        rw [show decide (((([] : List (Nat × GM)).length : Nat) : Int) = 0) = true from rfl]
        simp only
        refine (enter36 h1 1).mono ?_
        rintro v t' ⟨h2, -⟩
        rw [hf1, if_pos (h1.nil.2 rfl)]
        refine ⟨_, _, _, h2, fun p hp hj => ?_⟩
        have : p ∈ ps.filter fun x => !(!x.2.joined) := List.mem_filter.2 ⟨hp, by rw [hj]; rfl⟩
        rw [hps1] at this
        cases this
      · have hpos : 0 < ps1.length := List.length_pos_iff.2 hn
        rw [show decide (((ps1.length : Nat) : Int) = 0) = false from by rw [decide_eq_false_iff_not]; omega]
        rw [hf1, if_neg (fun hh => hn (h1.nil.1 hh))]
        have hgb := hb.gen
        have hkb := hb.k
        simp only
        rw [add_n (a := G1.gen) (b := 1) (by omega) (by omega)]
        refine store1 h1.at_ (by simp [gC]) (hc_int _ _) (ho_int _ _) rfl ?_
        have h2 := h1.putG { G1 with gen := G1.gen + 1 } all o rfl h1.sh
        rw [show (gC G1 all A1 o).set 4 (.lit (.int .i64 (G1.gen + 1))) = gC { G1 with gen := G1.gen + 1 } all A1 o from rfl]
        refine (enter36 h2 3).mono ?_
        rintro v t3 ⟨h3, -⟩
        clear h2
        have hall' : RowV b 2 all G1.all.length (rows topC G1.all) := by rw [e_all]; exact hall
        have hal : G1.all.length ≤ 1000 := by rw [e_all]; exact hb.all
        have htpl : ∀ m ∈ G1.l, m.tp.length ≤ 1000000 := fun m hm => (hb.mem m (hmem1 m hm)).2.2
        simp only [h3.ld, gC, List.getElem?_cons_succ, List.getElem?_cons_zero, hA1, GG.enter]
        have hl1 := h1.l
        -- the members, one by one
        refine HLoop.ghost (σ := HV × Nat) (fun g => [g.1, .lit (.int .i64 (g.2 : Int))]) (fun i w => i.2 ≤ ps1.length ∧ GSt b w g { ({ G1 with gen := G1.gen + 1 } : GG).enter 3 with l := (mapT (fun m => { m with synced := false }) i.2 ps1).map Prod.snd } all A1 (mapT (fun m => { m with synced := false }) i.2 ps1) o ∧
          Acc b w 2 i.1 i.2 (rows memC ((ps1.take i.2).map fun p => (⟨p.2.id, some p.2.tp⟩ : Mem))) ∧ (∀ k, (k = g ∨ accId A1 = some k ∨ ∃ p ∈ ps1, p.1 = k) → accId i.1 ≠ some k)) (fun i => ps1.length - i.2) (nilV, 0) rfl ⟨Nat.zero_le _, ?_, Acc.nil _ _ _, (fun k _ => by rintro ⟨⟩)⟩ ?_
        · show GSt b t3 g { ({ G1 with gen := G1.gen + 1 } : GG).enter 3 with l := (mapT _ 0 ps1).map Prod.snd } all A1 (mapT _ 0 ps1) o
          rw [mapT_zero, ← hl1]
          exact h3
        rintro ⟨L, i⟩ w KK ⟨hi, hw, hL, hsep⟩ hKK
        simp only at hi hw hL hsep
        simp only [List.headD_cons, List.tail_cons, lss_i]
        by_cases hlt : i < ps1.length
        · have hlt' : i < (mapT (fun m => { m with synced := false }) i ps1).length := by rw [mapT_len]; exact hlt
          obtain ⟨q, -, x1, -, x2⟩ := hw.acc.at_ pC_len p0 .i64 hlt'
          have x3 := x2 0 (by omega) 1
          rw [Nat.add_zero] at x3
          have hpu := fun m G' hG => hw.putM hlt' m G' hG
          have hm := getD_memD p0 hlt'
          have hm1 := getD_memD p0 hlt
          rw [mapT_at _ _ hlt] at x3 hpu hm
          have htk := take_succ' p0 ps1 hlt
          have hms := mapT_succ (fun m => { m with synced := false }) ps1 hlt
          simp only [hlt, decide_true, x1, x3, pC, List.getElem?_cons_zero, hvNil, hvFld]
          refine store1 (hw.mem _ hm).2.1 (by simp [gmC]) (hc_bool _) (ho_bool _) rfl ?_
          have hw2 := hpu { (ps1.getD i p0).2 with synced := false } _ rfl
          have hL2 := hL.put (.cells ((gmC (ps1.getD i p0).2).set 4 (.lit (.bool false)))) (hsep _ (.inr (.inr ⟨_, hm1, rfl⟩)))
          have hat2 := set_at w (ps1.getD i p0).1 (.cells ((gmC (ps1.getD i p0).2).set 4 (.lit (.bool false))))
          rw [show (gmC (ps1.getD i p0).2).set 4 (.lit (.bool false)) = gmC { (ps1.getD i p0).2 with synced := false } from rfl] at hL2 hat2 ⊢
          generalize w.set (ps1.getD i p0).1 (.cells (gmC { (ps1.getD i p0).2 with synced := false })) = w2 at *
          rw [← hms] at hw2
          generalize ps1.getD i p0 = x at *
          have l0 : vLoad w2 (.ptr x.1 0) 1 false = some (strV x.2.id) := load_cell 0 1 hat2
          have l1 : vLoad w2 (.ptr x.1 1) 1 false = some (rowL strC 1 x.2.tp) := load_cell 1 1 hat2
          simp only [l0, l1]
          rw [show vMk [(0, 1), (1, 1)] [.lit (.string .empty), .lit (.slice none 0 0)] [(0, strV x.2.id), (1, rowL strC 1 x.2.tp)] = some (.agg (memC ⟨x.2.id, some x.2.tp⟩)) from rfl]
          simp only
          refine hL2.app1 hw2.le (hc_agg _) rfl rfl ⟨by omega, by omega⟩ fun L' w3 g1 g2 g3 => ?_
          simp only [inc_i hlt (by omega)]
          have hids : ∀ k, (k = g ∨ accId A1 = some k ∨ ∃ p ∈ mapT (fun m => { m with synced := false }) (i + 1) ps1, p.1 = k) → (k = g ∨ accId A1 = some k ∨ ∃ p ∈ ps1, p.1 = k) := fun k hk => by
            rcases hk with hk | hk | ⟨p, hp, rfl⟩
            · exact .inl hk
            · exact .inr (.inl hk)
            · have : p.1 ∈ (mapT (fun m => { m with synced := false }) (i + 1) ps1).map Prod.fst := List.mem_map.2 ⟨p, hp, rfl⟩
              rw [mapT_fst] at this
              obtain ⟨p', hp', e⟩ := List.mem_map.1 this
              exact .inr (.inr ⟨p', hp', e⟩)
          refine hKK (L', i + 1) _ _ rfl ⟨hlt, hw2.keep g2 fun k ob hk ho => (g3 k ob (hsep k (hids k hk)) ho).1, ?_, fun k hk => ?_⟩ (by show ps1.length - (i + 1) < ps1.length - i; omega)
          · show Acc b w3 2 L' (i + 1) (rows memC ((ps1.take (i + 1)).map _))
            rw [htk, List.map_append, rows_app]
            exact g1
          · show accId L' ≠ some k
            have hex : ∃ ob, w2 k = some ob := by
              rcases hk with rfl | hk | ⟨p, hp, rfl⟩
              · exact ⟨_, hw2.at_⟩
              · obtain ⟨-, rest, hr⟩ := hw2.acc.free hk
                exact ⟨_, hr⟩
              · have : p.1 ∈ (mapT (fun m => { m with synced := false }) (i + 1) ps1).map Prod.fst := by rw [mapT_fst]; exact List.mem_map.2 ⟨p, hp, rfl⟩
                obtain ⟨p', hp', e⟩ := List.mem_map.1 this
                rw [← e]
                exact ⟨_, (hw2.mem p' hp').2.1⟩
            obtain ⟨ob, hob⟩ := hex
            exact (g3 k ob (hsep k hk) hob).2
        · obtain rfl : i = ps1.length := by omega
          rw [List.take_length] at hL
          simp only [hlt, decide_false]
          clear hKK
          obtain ⟨Lm, hLm⟩ : ∃ Lm, ps1.map (fun p => (⟨p.2.id, some p.2.tp⟩ : Mem)) = Lm := ⟨_, rfl⟩
          have hLml : Lm.length = ps1.length := by rw [← hLm, List.length_map]
          rw [hLm] at hL
          have rA : RowV w 2 L Lm.length (rows memC Lm) := by rw [hLml]; exact acc_row hL
          have rB : RowV w 2 all G1.all.length (rows topC G1.all) := hall'.le hw.le
          have htp : ∀ m ∈ Lm, (m.tp.getD []).length ≤ 1000000000 := fun m hm => by
            rw [← hLm] at hm
            obtain ⟨p, hp, rfl⟩ := List.mem_map.1 hm
            have := htpl p.2 (by rw [hl1]; exact List.mem_map.2 ⟨p, hp, rfl⟩)
            simp only [Option.getD_some]
            omega
          have hsh : ∀ rd, resD (if rd then roundA else rangeA) Lm G1.all = sharesOf rd (G1.l.map fun m => (m.id, m.tp)) G1.all := fun rd => by
            unfold sharesOf
            rw [hl1, List.map_map, List.map_map, ← hLm]
            rfl
          have hmap : (mapT (fun m => { m with synced := false }) ps1.length ps1).map Prod.snd = G1.l.map fun m => { m with synced := false } := by
            rw [mapT_all, hl1, List.map_map, List.map_map]
            rfl
          simp only [hw.ld, gC, List.getElem?_cons_succ, List.getElem?_cons_zero, GG.enter]
          have fin : ∀ o' : Option DD, o'.getD [] = sharesOf G1.round (G1.l.map fun m => (m.id, m.tp)) G1.all →
              ∃ A' ps' o'', GSt b (w.set g (.cells ((gC { ({ G1 with gen := G1.gen + 1 } : GG).enter 3 with l := (mapT (fun m => { m with synced := false }) ps1.length ps1).map Prod.snd } all A1 o).set 10 (rowV shE 2 o')))) g { G1 with gen := G1.gen + 1, state := 3, since := G1.now, l := G1.l.map fun m => { m with synced := false }, shares := sharesOf G1.round (G1.l.map fun m => (m.id, m.tp)) G1.all } all A' ps' o'' ∧ Kp ps ps' := fun o' ho' => by
            refine ⟨A1, mapT (fun m => { m with synced := false }) ps1.length ps1, o', ?_, fun p hp hj => ?_⟩
            rotate_left
            · have hp1 : p ∈ ps.filter fun x => !(!x.2.joined) := List.mem_filter.2 ⟨hp, by rw [hj]; rfl⟩
              rw [hps1] at hp1
              rw [mapT_all]
              exact ⟨_, List.mem_map.2 ⟨p, hp1, rfl⟩, rfl, rfl⟩
            have := hw.putG { G1 with gen := G1.gen + 1, state := 3, since := G1.now, l := G1.l.map fun m => { m with synced := false }, shares := sharesOf G1.round (G1.l.map fun m => (m.id, m.tp)) G1.all } all o' hmap.symm ho'
            exact this
          cases hrd : G1.round with
          | true =>
            simp only
            refine (round10U rA rB (by omega) (by omega) htp).mono ?_
            rintro v w' ⟨rfl, hv⟩
            obtain ⟨o', ho', rfl⟩ := uni hv
            simp only [vExtract, List.getElem?_cons_zero, List.getElem?_cons_succ]
            refine store1 hw.at_ (by simp [gC]) (hc_rowV _ _ _) (ho_rowV _ _ _) rfl ?_
            have hfin := fin o' (by rw [ho', hrd]; exact hsh true)
            simp only [hrd] at hfin ⊢
            exact hfin
          | false =>
            simp only
            refine (range13U rA rB (by omega) (by omega) htp).mono ?_
            rintro v w' ⟨rfl, hv⟩
            obtain ⟨o', ho', rfl⟩ := uni hv
            simp only [vExtract, List.getElem?_cons_zero, List.getElem?_cons_succ]
            refine store1 hw.at_ (by simp [gC]) (hc_rowV _ _ _) (ho_rowV _ _ _) rfl ?_
            have hfin := fin o' (by rw [ho', hrd]; exact hsh false)
            simp only [hrd] at hfin ⊢
            exact hfin
end
end Go.Proofs.YtkcgokkgefgcjaaGreatDoor.AS
end
section
namespace Go.Proofs.YtkcgokkgefgcjaaGreatDoor.AS
open Go.Proofs.YtkcgokkgefgcjaaGreatDoor.H Go.Proofs.YtkcgokkgefgcjaaGreatDoor.G0 Go.Proofs.YtkcgokkgefgcjaaGreatDoor.G1
set_option linter.unusedVariables false
set_option linter.unusedSimpArgs false
set_option maxRecDepth 100000
section
variable {b s : HS} {g : Nat} {G : GG} {all A : HV} {ps : List (Nat × GM)} {o : Option DD} {K : Nat}
theorem Bd.mono {K' : Nat} (h : Bd K G) (hk : K ≤ K') (hk' : K' ≤ 1000000) : Bd K' G := ⟨h.now, h.since, h.mem, ⟨h.gen.1, by have := h.gen.2; omega⟩, by have := h.len; omega, h.all, h.sh, hk'⟩
theorem Bd.enter (h : Bd K G) (st : Int) : Bd K (G.enter st) := ⟨h.now, h.now, h.mem, h.gen, h.len, h.all, h.sh, h.k⟩
theorem Bd.outs (h : Bd K G) (p : GM → Bool) : Bd K (G.outs p) := ⟨h.now, h.since, fun m hm => h.mem m (List.mem_filter.1 hm).1, h.gen, Nat.le_trans (List.length_filter_le _ _) h.len, h.all, h.sh, h.k⟩
theorem Bd.prepares (h : Bd K G) : Bd K G.prepares := by
  unfold GG.prepares
  split
  · exact h.enter 1
  · refine ⟨h.now, h.now, fun m hm => ?_, h.gen, by show (G.l.map _).length ≤ K; rw [List.length_map]; exact h.len, h.all, h.sh, h.k⟩
    obtain ⟨m', hm', rfl⟩ := List.mem_map.1 (show m ∈ G.l.map _ from hm)
    exact h.mem m' hm'
theorem sharesOf_bd (rd : Bool) (l : List (By × List By)) (al : List Top) (hl : l.length ≤ 1000000) (ha : al.length ≤ 1000) : (sharesOf rd l al).length ≤ 1000000 ∧ ∀ d ∈ sharesOf rd l al, d.2.length ≤ 1000000 := by
  unfold sharesOf
  cases rd with
  | true =>
    obtain ⟨h1, h2⟩ := resD_bound (rg := roundA) (l.map fun p => (⟨p.1, some p.2⟩ : Mem)) al (good_round _ _)
    rw [List.length_map] at h1
    exact ⟨by simp only [if_true]; omega, fun d hd => by simp only [if_true] at hd; have := h2 d hd; omega⟩
  | false =>
    obtain ⟨h1, h2⟩ := resD_bound (rg := rangeA) (l.map fun p => (⟨p.1, some p.2⟩ : Mem)) al (good_range _ _)
    rw [List.length_map] at h1
    exact ⟨by simp only [Bool.false_eq_true, if_false]; omega, fun d hd => by simp only [Bool.false_eq_true, if_false] at hd; have := h2 d hd; omega⟩
theorem Bd.forms1 (h : Bd K G) (hk : K + 1 ≤ 1000000) : Bd (K + 1) G.forms1 := by
  have ho := h.outs fun m => !m.joined
  unfold GG.forms1
  simp only
  generalize (G.outs fun m => !m.joined) = G1 at *
  split
  · exact (ho.enter 1).mono (by omega) hk
  · refine ⟨ho.now, ho.now, fun m hm => ?_, ?_, ?_, ho.all, sharesOf_bd _ _ _ ?_ ho.all, hk⟩
    · obtain ⟨m', hm', rfl⟩ := List.mem_map.1 (show m ∈ G1.l.map _ from hm)
      exact ho.mem m' hm'
    · have := ho.gen
      exact ⟨by show 0 ≤ G1.gen + 1; omega, by show G1.gen + 1 ≤ _; omega⟩
    · show (G1.l.map _).length ≤ _
      rw [List.length_map]
      have := ho.len
      omega
    · rw [List.length_map]; have h1 := ho.len; have h2 := ho.k; omega
theorem Bd.forms (h : Bd K G) (hk : K + 1 ≤ 1000000) : Bd (K + 1) G.forms := by
  unfold GG.forms
  split
  · exact h.forms1 hk
  · exact h.mono (by omega) hk
theorem Bd.ite {c : Prop} [Decidable c] {G1 G2 : GG} (h1 : Bd K G1) (h2 : Bd K G2) : Bd K (if c then G1 else G2) := by
  split
  · exact h1
  · exact h2
theorem Bd.goes1 (h : Bd K G) (hk : K + 1 ≤ 1000000) : Bd (K + 1) G.goes1 := by
  have h2 := h.outs fun m => decide (G.session < G.now - m.heard)
  unfold GG.goes1
  simp only
  exact Bd.forms (Bd.ite ((Bd.ite h2.prepares h2).enter 1) (Bd.ite h2.prepares h2)) hk
theorem Bd.goes {now : Int} (h : Bd K G) (hk : K + 1 ≤ 1000000) (hn : now ≤ 1125899906842624) : Bd (K + 1) (G.goes now) := by
  have h0 : Bd K { G with now := max G.now now } := ⟨by have := h.now; exact ⟨by show 0 ≤ max G.now now; omega, by show max G.now now ≤ _; omega⟩, h.since, h.mem, h.gen, h.len, h.all, h.sh, h.k⟩
  have h1 := h0.goes1 hk
  unfold GG.goes
  generalize ({ G with now := max G.now now } : GG).goes1 = G1 at *
  unfold GG.goes2
  split
  · exact (h1.outs _).prepares
  · exact h1
theorem Bd.setAll {al : List Top} (h : Bd K G) (ha : al.length ≤ 1000) : Bd K { G with all := al } := ⟨h.now, h.since, h.mem, h.gen, h.len, ha, h.sh, h.k⟩
theorem Bd.pslen (hb : Bd K G) (h : GSt b s g G all A ps o) : ps.length ≤ 1000000 := by have h1 := hb.len; have h2 := hb.k; rw [h.len] at h1; omega
theorem prepares_all (G : GG) : G.prepares.all = G.all := by unfold GG.prepares; split <;> rfl
theorem outs_none {p : GM → Bool} (h : G.any p = false) : G.outs p = G := by
  unfold GG.outs GG.any at *
  have : (G.l.filter fun m => !p m) = G.l := List.filter_eq_self.2 fun m hm => by have := List.any_eq_false.1 h m hm; simpa using this
  rw [this]
theorem max2 (a c : Int) : hfold vMax2 (.lit (.int .i64 a)) [.lit (.int .i64 c)] = some (.lit (.int .i64 (max a c))) := by
  simp only [hfold, vMax2, Option.bind_some]
  congr 3
  split <;> omega
theorem goes39 (h : GSt b s g G all A ps o) (hall : RowV b 2 all G.all.length (rows topC G.all)) (hb : Bd K G) (hk : K + 1 ≤ 1000000) {now : Int} (hn : now ≤ 1125899906842624) : HC Tryz.prog 59 [.ptr g 0, .lit (.int .i64 now)] s (fun v t => ∃ A' ps' o', GSt b t g (G.goes now) all A' ps' o') := by
  refine HC59 ?_
  unfold c59
  refine hbox_intro (hc_ptr _ _) fun x1 hx1 => ?_
  -- the box is counted to what lies still
  have hx := h.grow hx1 (.cells [.ptr g 0])
  have hbx : HS.le b (b.set x1 (.cells [.ptr g 0])) := le_set_new _ (le_refl' b) (none_of_le h.le hx1)
  have hallx := hall.le hbx
  have e1 := set_at b x1 (.cells [.ptr g 0])
  generalize b.set x1 (.cells [.ptr g 0]) = c at *
  generalize s.set x1 (.cells [.ptr g 0]) = s1 at *
  have lx : ∀ u, HS.le c u → vLoad u (.ptr x1 0) 1 false = some (.ptr g 0) := fun u hu => load_cell 0 1 (hu _ _ e1)
  simp only [lx s1 hx.le, hvNil, hvFld, bindO, hx.ld, gC, List.getElem?_cons_succ, List.getElem?_cons_zero, max2]
  refine store1 hx.at_ (by simp [gC]) (hc_int _ _) (ho_int _ _) rfl ?_
  obtain ⟨G0, hG0⟩ : ∃ G0, ({ G with now := max G.now now } : GG) = G0 := ⟨_, rfl⟩
  have h0 := hx.putG { G with now := max G.now now } all o rfl hx.sh
  rw [show (gC G all A o).set 6 (.lit (.int .i64 (max G.now now))) = gC { G with now := max G.now now } all A o from rfl]
  have hb0 : Bd K { G with now := max G.now now } := ⟨by have := hb.now; exact ⟨by show 0 ≤ max G.now now; omega, by show max G.now now ≤ _; omega⟩, hb.since, hb.mem, hb.gen, hb.len, hb.all, hb.sh, hb.k⟩
  have ha0 : ({ G with now := max G.now now } : GG).all = G.all := rfl
  unfold GG.goes
  rw [hG0] at h0 hb0 ha0 ⊢
  clear hG0
  generalize s1.set g (.cells (gC G0 all A o)) = s2 at *
  clear hx
  have hl0 := hb0.pslen h0
  obtain ⟨f, hf⟩ : ∃ f : GM → Bool, (fun m => decide (G0.session < G0.now - m.heard)) = f := ⟨_, rfl⟩
  obtain ⟨G3, hG3⟩ : ∃ G3, (if (G0.any f && !decide ((G0.outs f).state = 2)) = true then (G0.outs f).prepares else G0.outs f) = G3 := ⟨_, rfl⟩
  obtain ⟨G4, hG4⟩ : ∃ G4, (if G3.state = 2 ∧ G3.l = [] then G3.enter 1 else G3) = G4 := ⟨_, rfl⟩
  have hgo : G0.goes1 = G4.forms := by
    unfold GG.goes1
    simp only
    rw [hf, hG3, hG4]
  have hb2 := hb0.outs f
  have hb3 : Bd K G3 := by
    rw [← hG3]; split
    · exact hb2.prepares
    · exact hb2
  have ha3 : G3.all = G.all := by
    rw [← hG3]; split
    · rw [prepares_all]; exact ha0
    · exact ha0
  have hb4 : Bd K G4 := by
    rw [← hG4]; split
    · exact hb3.enter 1
    · exact hb3
  have ha4 : G4.all = G.all := by
    rw [← hG4]; split
    · exact ha3
    · exact ha3
  rw [hgo]
  refine Join.of (fun _ u => ∃ A3 ps3, GSt c u g G3 all A3 ps3 o) ?_ ?_
  rotate_left
  · intro K12 hK12
    refine Join.of (fun xs u => ∃ A2 ps2, GSt c u g (G0.outs f) all A2 ps2 o ∧ xs = [.lit (.bool (G0.any f && !decide ((G0.outs f).state = 2)))]) ?_ ?_
    · rintro _ u ⟨A2, ps2, h2, rfl⟩
      simp only [List.headD_cons]
      cases hc : G0.any f && !decide ((G0.outs f).state = 2) with
      | true =>
        rw [if_pos hc] at hG3
        simp only [hcond, lx u h2.le]
        refine (prepares31 h2 (hb2.pslen h2)).mono ?_
        rintro v t ⟨ps3, h3, -⟩
        rw [hG3] at h3
        exact hK12 _ _ ⟨_, _, h3⟩
      | false =>
        rw [if_neg (by rw [hc]; exact Bool.false_ne_true)] at hG3
        simp only [hcond]
        rw [hG3] at h2
        exact hK12 _ _ ⟨_, _, h2⟩
    · intro K15 hK15
      simp only [lx s2 h0.le]
      refine (outs41 h0 hl0 f (fn := 77) (fcaps := [.ptr x1 0]) (fun u hu x hx K hK => ?_)).mono ?_
      · have nx : accId A ≠ some x1 := fun e => by have := (h0.acc.free e).1; rw [e1] at this; cases this
        have lx1 : vLoad u (.ptr x1 0) 1 false = some (.ptr g 0) := load_cell 0 1 (hu _ _ nx (h0.le _ _ e1))
        have lg : ∀ k, vLoad u (.ptr g k) 1 false = (gC G0 all A o)[k]? := fun k => load_cell k 1 (hu _ _ h0.accg h0.at_)
        obtain ⟨m1, m2, m3, m4⟩ := h0.mem x hx
        have lm : ∀ k, vLoad u (.ptr x.1 k) 1 false = (gmC x.2)[k]? := fun k => load_cell k 1 (hu _ _ m4 m2)
        have hmb := hb0.mem x.2 (by rw [h0.l]; exact List.mem_map.2 ⟨x, hx, rfl⟩)
        have hnb := hb0.now
        simp only [hcall, hite_eq, plain56, if_true, List.cons_append, List.nil_append]
        refine HC77 ?_
        unfold c77
        simp only [lx1, lg, lm, hvNil, hvFld, bindO, gC, gmC, List.getElem?_cons_succ, List.getElem?_cons_zero]
        rw [sub_n (by omega) (by omega)]
        simp only [gtr_n]
        rw [← hf] at hK
        exact hK
      · rintro v u ⟨rfl, A2, h2⟩
        cases hany : G0.any f with
        | false =>
          simp only [hcond]
          exact hK15 _ _ ⟨_, _, h2, by rw [hany]; rfl⟩
        | true =>
          simp only [hcond, lx u h2.le, hvNil, hvFld, bindO, h2.ld, gC, List.getElem?_cons_succ, List.getElem?_cons_zero, neq_i3]
          exact hK15 _ _ ⟨_, _, h2, by rw [hany, Bool.true_and]⟩
  rintro _ u ⟨A3, ps3, h3⟩
  refine Join.of (fun _ u => ∃ A4 ps4, GSt c u g G4 all A4 ps4 o) ?_ ?_
  rotate_left
  · intro K29 hK29
    refine Join.of (fun xs w => w = u ∧ xs = [.lit (.bool (decide (G3.state = 2) && decide (ps3.length = 0)))]) ?_ ?_
    · rintro _ w ⟨rfl, rfl⟩
      simp only [List.headD_cons]
      cases hc : decide (G3.state = 2) && decide (ps3.length = 0) with
      | true =>
        simp only [Bool.and_eq_true, decide_eq_true_eq] at hc
        rw [if_pos ⟨hc.1, h3.nil.2 (List.eq_nil_of_length_eq_zero hc.2)⟩] at hG4
        simp only [hcond, lx w h3.le]
        refine (enter36 h3 1).mono ?_
        rintro v t ⟨h4, -⟩
        rw [hG4] at h4
        exact hK29 _ _ ⟨_, _, h4⟩
      | false =>
        rw [if_neg (fun hh => by
          have : ps3 = [] := h3.nil.1 hh.2
          simp [hh.1, this] at hc)] at hG4
        simp only [hcond]
        rw [hG4] at h3
        exact hK29 _ _ ⟨_, _, h3⟩
    · intro K32 hK32
      have hA3 : vLenT (Tryz.prog.underlying 51) u A3 = some (.lit (.int .i64 (ps3.length : Int))) := h3.acc.len _ _
      simp only [lx u h3.le, hvNil, hvFld, bindO, h3.ld, gC, List.getElem?_cons_succ, List.getElem?_cons_zero, eql_n]
      by_cases hs : G3.state = 2
      · simp only [hs, decide_true, hcond, lx u h3.le, hvNil, hvFld, bindO, h3.ld, gC, List.getElem?_cons_succ, List.getElem?_cons_zero, eql_n, hA3]
        refine hK32 _ _ ⟨rfl, ?_⟩
        congr 3
        simp [hs]
      · simp only [hs, decide_false, hcond]
        exact hK32 _ _ ⟨rfl, by simp [hs]⟩
  rintro _ u4 ⟨A4, ps4, h4⟩
  simp only [lx u4 h4.le]
  refine (forms32 h4 (by rw [ha4]; exact hallx) hb4).mono ?_
  rintro v u5 ⟨A5, ps5, o5, h5, -⟩
  have hb5 := hb4.forms hk
  generalize G4.forms = G5 at *
  clear hgo
  refine Join.of (fun xs w => ∃ r, xs = [.lit (.bool r)] ∧ ∃ A6 ps6, if r = true then GSt c w g (G5.outs fun m => !m.synced) all A6 ps6 o5 ∧ G5.goes2 = (G5.outs fun m => !m.synced).prepares else GSt c w g G5.goes2 all A6 ps6 o5) ?_ ?_
  · rintro _ w ⟨r, rfl, A6, ps6, h6⟩
    simp only [List.headD_cons]
    cases r with
    | true =>
      simp only [if_true] at h6
      obtain ⟨h6, e6⟩ := h6
      simp only [hcond, lx w h6.le]
      refine (prepares31 h6 ((hb5.outs _).pslen h6)).mono ?_
      rintro v t ⟨ps7, h7, -⟩
      rw [← e6] at h7
      exact ⟨_, _, _, h7.base hbx⟩
    | false =>
      simp only [Bool.false_eq_true, if_false] at h6
      simp only [hcond]
      exact ⟨_, _, _, h6.base hbx⟩
  · intro K52 hK52
    simp only [lx u5 h5.le, hvNil, hvFld, bindO, h5.ld, gC, List.getElem?_cons_succ, List.getElem?_cons_zero, eql_n]
    have hno : ∀ w, ¬ (G5.state = 3 ∧ G5.over = true ∧ (G5.any fun m => !m.synced) = true) → GSt c w g G5 all A5 ps5 o5 → K52 [.lit (.bool false)] w := fun w hh h6 => by
      refine hK52 _ _ ⟨false, rfl, A5, ps5, ?_⟩
      simp only [Bool.false_eq_true, if_false]
      unfold GG.goes2
      rw [if_neg hh]
      exact h6
    by_cases hs : G5.state = 3
    · simp only [hs, decide_true, hcond, lx u5 h5.le]
      refine (over50 h5 hb5).mono ?_
      rintro v w ⟨rfl, rfl⟩
      cases hov : G5.over with
      | false =>
        simp only [hcond]
        exact hno _ (fun hh => by rw [hov] at hh; cases hh.2.1) h5
      | true =>
        simp only [hcond, lx w h5.le]
        refine (outs41 h5 (hb5.pslen h5) (fun m => !m.synced) (fn := 78) (fcaps := []) (fun u hu x hx K hK => ?_)).mono ?_
        · obtain ⟨m1, m2, m3, m4⟩ := h5.mem x hx
          have e : vLoad u (.ptr x.1 4) 1 false = (gmC x.2)[4]? := load_cell 4 1 (hu _ _ m4 m2)
          simp only [hcall, hite_eq, plain57, if_true, List.append_nil]
          refine HC78 ?_
          unfold c78
          simp only [hvNil, hvFld, bindO, e, gmC, List.getElem?_cons_succ, List.getElem?_cons_zero, vUn]
          exact hK
        · rintro v t ⟨rfl, A6, h6⟩
          refine hK52 _ _ ⟨_, rfl, A6, (ps5.filter fun x => !!x.2.synced), ?_⟩
          cases hany : G5.any fun m => !m.synced with
          | true =>
            simp only [if_true]
            refine ⟨h6, ?_⟩
            unfold GG.goes2
            rw [if_pos ⟨hs, hov, hany⟩]
          | false =>
            simp only [Bool.false_eq_true, if_false]
            unfold GG.goes2
            rw [if_neg (fun hh => by rw [hany] at hh; cases hh.2.2), ← outs_none hany]
            exact h6
    · simp only [hs, decide_false, hcond]
      exact hno _ (fun hh => hs hh.1) h5
end
end Go.Proofs.YtkcgokkgefgcjaaGreatDoor.AS
end
section
namespace Go.Proofs.YtkcgokkgefgcjaaGreatDoor.AS
open Go.Proofs.YtkcgokkgefgcjaaGreatDoor.H Go.Proofs.YtkcgokkgefgcjaaGreatDoor.G0 Go.Proofs.YtkcgokkgefgcjaaGreatDoor.G1
set_option linter.unusedVariables false
set_option linter.unusedSimpArgs false
set_option maxRecDepth 100000
namespace GG
def upd (G : GG) (id : By) (f : GM → GM) : GG := match G.at_ id with
  | some i => { G with l := G.l.set i (f (G.l.getD i gm0)) }
  | none => G
def fenceE (G : GG) (id : By) (gen : Int) : Int := match G.at_ id with
  | none => 13
  | some _ => if gen = G.gen then 0 else 12
noncomputable def heard (G : GG) (id : By) (gen now : Int) : GG × Int :=
  let G1 := G.goes now
  if G1.fenceE id gen = 0 then (G1.upd id fun m => { m with heard := G1.now }, if G1.state = 2 then 14 else 0) else (G1, G1.fenceE id gen)
noncomputable def sync (G : GG) (id : By) (gen now : Int) : GG × List Slot × Int :=
  if (G.heard id gen now).2 = 0 then
    let G2 := (G.heard id gen now).1.upd id fun m => { m with synced := true }
    (if G2.state = 3 ∧ G2.l.all (·.synced) = true then G2.enter 4 else G2, ofD G2.shares id, 0)
  else ((G.heard id gen now).1, [], (G.heard id gen now).2)
noncomputable def leave (G : GG) (id : By) (al : List Top) (now : Int) : GG × Int :=
  let G1 := G.tick al now
  match G1.at_ id with
  | none => (G1, 13)
  | some _ =>
    let G2 := G1.outs fun m => decide (m.id = id)
    ((if G2.state ≠ 2 ∨ G2.l = [] then G2.prepares else G2).forms, 0)
end GG
section
variable {b s : HS} {g : Nat} {G : GG} {all A : HV} {ps : List (Nat × GM)} {o : Option DD} {K : Nat}
theorem GSt.upd (h : GSt b s g G all A ps o) {i : Nat} (hi : i < ps.length) (f : GM → GM) : GSt b (s.set (ps.getD i p0).1 (.cells (gmC (f (ps.getD i p0).2)))) g { G with l := G.l.set i (f (G.l.getD i gm0)) } all A (ps.set i ((ps.getD i p0).1, f (ps.getD i p0).2)) o := by
  refine h.putM hi _ _ ?_
  have : G.l.getD i gm0 = (ps.getD i p0).2 := by
    rw [h.l, getD_get _ _ (by simpa using hi), getD_get _ _ hi, List.getElem_map]
  rw [this, h.l, List.map_set]
/-- What is new lies still. -/
def ups (b s t : HS) : HS := fun k => if s k = none then t k else b k
theorem ups_le {b s t : HS} (hb : HS.le b s) (hle : HS.le s t) : HS.le (ups b s t) t := by
  intro k ob hk
  unfold ups at hk
  split at hk
  · exact hk
  · exact hle _ _ (hb _ _ hk)
theorem le_ups {b s t : HS} (hb : HS.le b s) : HS.le b (ups b s t) := by
  intro k ob hk
  unfold ups
  rw [if_neg (by rw [hb _ _ hk]; exact Option.some_ne_none _)]
  exact hk
theorem ups_old {b s t : HS} {k : Nat} {ob : HObj} (h : s k = some ob) : ups b s t k = b k := by unfold ups; rw [if_neg (by rw [h]; exact Option.some_ne_none _)]
theorem GSt.ups {t : HS} (h : GSt b s g G all A ps o) (hle : HS.le s t) : GSt (ups b s t) t g G all A ps o := by
  refine ⟨ups_le h.le hle, by rw [ups_old h.at_]; exact h.free, hle _ _ h.at_, ?_, h.accg, fun p hp => ?_, h.nodup, h.l, h.sh⟩
  · rcases h.acc with h1 | ⟨q, f, r, k', h1, h2, h3, h4⟩
    · exact .inl h1
    · exact .inr ⟨q, f, r, k', by rw [ups_old h3]; exact h1, h2, hle _ _ h3, h4⟩
  · obtain ⟨h1, h2, h3⟩ := h.mem p hp
    exact ⟨by rw [ups_old h2]; exact h1, hle _ _ h2, h3⟩
theorem acc0_ups {t : HS} {sz : Nat} {v : HV} {n : Nat} {cs : List HV} (h : Acc0 s t sz v n cs) : RowV (ups b s t) sz v n cs := by
  rcases h with (⟨h1, h2, h3⟩ | ⟨q, f, h1, h2, h3, h4, h5⟩) | ⟨h1, h2, q, h3, h4, h5⟩
  · exact .inl ⟨h1, h2, h3⟩
  · exact .inr ⟨q, f, h2, by unfold ups; rw [if_pos h1]; exact h3, h4⟩
  · subst h1 h2
    exact .inr ⟨q, true, h4, by unfold ups; rw [if_pos h3]; exact h5, by simp⟩
/-- Topics that are handed in. -/
def ARow (a : HV) (al : List Top) : Prop := a = rowL topC 2 al ∧ al ≠ []
theorem clone38 {a : HV} {al : List Top} (h : ARow a al) (hn : al.length ≤ 1000) : HC Tryz.prog 58 [a] s (fun v t => Acc0 s t 2 v al.length (rows topC al) ∧ HS.le s t) := by
  obtain ⟨rfl, h0⟩ := h
  cases al with
  | nil => exact absurd rfl h0
  | cons x l =>
    refine HC58 ?_
    unfold c58
    rw [show vCmp (Tryz.prog.underlying 40) .eql (rowL topC 2 (x :: l)) (.lit (.slice none 0 0)) = some (.lit (.bool false)) from rfl]
    simp only [bindO, hcond]
    refine hBS0 fun id hid => ?_
    exact app_empty (b := s) (le_set_new _ (le_refl' s) hid) hid (set_at _ _ _) (k := (x :: l).length) (lcells_rowL _ _) rfl (rows_len topC_len _) ⟨by omega, by omega⟩ fun A' t' k1 k2 => ⟨k1, k2⟩
theorem eqp23 (g : Nat) : vCmp (Tryz.prog.underlying 25) .eql (.ptr g 0) (.lit (.pointer none)) = some (.lit (.bool false)) := rfl
theorem nep23 (g : Nat) : vCmp (Tryz.prog.underlying 25) .neq (.ptr g 0) (.lit (.pointer none)) = some (.lit (.bool true)) := rfl
theorem eqp69 (g : Nat) : vCmp (Tryz.prog.underlying 79) .eql (.ptr g 0) (.lit (.pointer none)) = some (.lit (.bool false)) := rfl
theorem eqn69 : vCmp (Tryz.prog.underlying 79) .eql (.lit (.pointer none)) (.lit (.pointer none)) = some (.lit (.bool true)) := rfl
theorem eql_24 (a b : Int) : vCmp (Tryz.prog.underlying 26) .eql (.lit (.int .i64 a)) (.lit (.int .i64 b)) = some (.lit (.bool (decide (a = b)))) := by
  simp only [vCmp, vBin, if_true, Option.some.injEq, HV.lit.injEq, Value.bool.injEq]
  congr 1
theorem neq_24 (a c : Int) : vCmp (Tryz.prog.underlying 26) .neq (.lit (.int .i64 a)) (.lit (.int .i64 c)) = some (.lit (.bool (!decide (a = c)))) := by
  simp only [vCmp, vBin, if_true, Option.some.injEq, HV.lit.injEq, Value.bool.injEq, bne]
  congr 1
theorem tick17 (h : GSt b s g G all A ps o) (hb : Bd K G) (hk : K + 1 ≤ 1000000) {a : HV} {al : List Top} (ha : ARow a al) (hal : al.length ≤ 1000) {now : Int} (hn : now ≤ 1125899906842624) :
    HC Tryz.prog 23 [.ptr g 0, a, .lit (.int .i64 now)] s (fun v t => ∃ b' all' A' ps' o', HS.le b b' ∧ RowV b' 2 all' al.length (rows topC al) ∧ GSt b' t g (G.tick al now) all' A' ps' o') := by
  refine HC23 ?_
  unfold c23
  simp only [nep23, bindO, hcond]
  refine (clone38 ha hal).mono ?_
  rintro v t ⟨h1, h2⟩
  have hu := h.ups h2
  have hr := acc0_ups (b := b) h1
  have hle := le_ups (t := t) h.le
  generalize ups b s t = b1 at *
  simp only [hvNil, hvFld]
  refine store1 hu.at_ (by simp [gC]) (acc0_one h1).2 (acc0_one h1).1 rfl ?_
  have h0 := hu.putG { G with all := al } v o rfl hu.sh
  rw [show (gC G all A o).set 8 v = gC { G with all := al } v A o from rfl]
  refine (goes39 h0 hr (hb.setAll hal) hk hn).mono ?_
  rintro _ u ⟨A', ps', o', h3⟩
  exact ⟨b1, v, A', ps', o', hle, hr, h3⟩
theorem at_lt (h : GSt b s g G all A ps o) {id : By} {i : Nat} (hi : G.at_ id = some i) : i < ps.length := by
  rw [h.idx] at hi
  exact (List.findIdx?_eq_some_iff_getElem.1 hi).1
theorem fence44 (h : GSt b s g G all A ps o) (hl : ps.length ≤ 1000000) (id : By) (gen : Int) : HC Tryz.prog 60 [.ptr g 0, strV id, .lit (.int .i64 gen)] s (fun v t => t = s ∧ v = .tup [if G.fenceE id gen = 0 then ptrAt ps (G.at_ id) else .lit (.pointer none), .lit (.int .i64 (G.fenceE id gen))]) := by
  refine HC60 ?_
  unfold c60
  simp only [eqp23, bindO, hcond]
  refine (find27 h hl id).mono ?_
  rintro v t ⟨rfl, rfl⟩
  unfold GG.fenceE
  cases hi : G.at_ id with
  | none =>
    simp only [ptrAt, eqn69]
    exact ⟨trivial, rfl⟩
  | some i =>
    simp only [ptrAt, eqp69, hvNil, hvFld, h.ld, gC, List.getElem?_cons_succ, List.getElem?_cons_zero, neq_i3]
    by_cases he : gen = G.gen
    · simp only [he, decide_true, Bool.not_true, if_true]
      exact ⟨trivial, by trivial⟩
    · simp only [he, decide_false, Bool.not_false, if_false]
      exact ⟨trivial, by trivial⟩
theorem at_ids {G G' : GG} (h : G'.l.map GM.id = G.l.map GM.id) (id : By) : G'.at_ id = G.at_ id := by
  have e : ∀ l : List GM, l.findIdx? (fun m => decide (m.id = id)) = (l.map GM.id).findIdx? fun x => decide (x = id) := fun l => by rw [List.findIdx?_map]; rfl
  unfold GG.at_
  rw [e, e, h]
theorem upd_ids (G : GG) (id : By) (f : GM → GM) (hf : ∀ m, (f m).id = m.id) : (G.upd id f).l.map GM.id = G.l.map GM.id := by
  unfold GG.upd
  cases hi : G.at_ id with
  | none => rfl
  | some i =>
    have hi' : i < G.l.length := (List.findIdx?_eq_some_iff_getElem.1 hi).1
    show (G.l.set i _).map GM.id = _
    rw [List.map_set, hf, getD_get _ _ hi']
    have : G.l[i].id = (G.l.map GM.id)[i]'(by simpa using hi') := by simp
    rw [this, List.set_getElem_self]
theorem GSt.updId (h : GSt b s g G all A ps o) {id : By} {i : Nat} (hi : G.at_ id = some i) (f : GM → GM) : GSt b (s.set (ps.getD i p0).1 (.cells (gmC (f (ps.getD i p0).2)))) g (G.upd id f) all A (ps.set i ((ps.getD i p0).1, f (ps.getD i p0).2)) o := by
  unfold GG.upd
  rw [hi]
  exact h.upd (at_lt h hi) f
theorem heard33 (h : GSt b s g G all A ps o) (hall : RowV b 2 all G.all.length (rows topC G.all)) (hb : Bd K G) (hk : K + 1 ≤ 1000000) (id : By) (gen : Int) {now : Int} (hn : now ≤ 1125899906842624) :
    HC Tryz.prog 41 [.ptr g 0, strV id, .lit (.int .i64 gen), .lit (.int .i64 now)] s (fun v t => ∃ A' ps' o', GSt b t g (G.heard id gen now).1 all A' ps' o' ∧ v = .tup [if (G.heard id gen now).2 = 0 then ptrAt ps' ((G.heard id gen now).1.at_ id) else .lit (.pointer none), .lit (.int .i64 (G.heard id gen now).2)]) := by
  refine HC41 ?_
  unfold c41
  simp only [nep23, bindO, hcond]
  unfold Join
  refine (goes39 h hall hb hk hn).mono ?_
  rintro _ t ⟨A1, ps1, o1, h1⟩
  have hb1 := hb.goes hk hn
  unfold GG.heard
  generalize G.goes now = G1 at *
  simp only
  refine (fence44 h1 (hb1.pslen h1) id gen).mono ?_
  rintro v u ⟨rfl, rfl⟩
  simp only [vExtract, List.getElem?_cons_succ, List.getElem?_cons_zero, neq_24]
  by_cases he : G1.fenceE id gen = 0
  · obtain ⟨i, hi⟩ : ∃ i, G1.at_ id = some i := by
      unfold GG.fenceE at he
      cases hi : G1.at_ id with
      | none => rw [hi] at he; cases he
      | some i => exact ⟨i, rfl⟩
    have hlt := at_lt h1 hi
    have hm := getD_memD p0 hlt
    have hids := at_ids (upd_ids G1 id (fun m => { m with heard := G1.now }) (fun m => rfl)) id
    simp only [he, decide_true, Bool.not_true, if_true, hi, ptrAt, hvNil, hvFld, h1.ld, gC, List.getElem?_cons_succ, List.getElem?_cons_zero]
    refine store1 (h1.mem _ hm).2.1 (by simp [gmC]) (hc_int _ _) (ho_int _ _) rfl ?_
    have h2 := h1.updId hi (fun m => { m with heard := G1.now })
    rw [show (gmC (ps1.getD i p0).2).set 2 (.lit (.int .i64 G1.now)) = gmC { (ps1.getD i p0).2 with heard := G1.now } from rfl]
    have e0 : (ps1.getD i p0).1 = ((ps1.set i ((ps1.getD i p0).1, { (ps1.getD i p0).2 with heard := G1.now })).getD i p0).1 := by
      rw [getD_get p0 (ps1.set _ _) (by rw [List.length_set]; exact hlt), List.getElem_set_self]
    have est : (G1.upd id fun m => { m with heard := G1.now }).state = G1.state := by unfold GG.upd; rw [hi]
    simp only [h2.ld, gC, List.getElem?_cons_succ, List.getElem?_cons_zero, eql_n, est]
    by_cases hs : G1.state = 2
    · simp only [hs, decide_true]
      refine ⟨_, _, _, h2, ?_⟩
      simp
    · simp only [hs, decide_false]
      refine ⟨_, _, _, h2, ?_⟩
      rw [hids, hi]
      simp only [if_false, if_true, ptrAt]
      rw [← e0]
  · simp only [he, decide_false, Bool.not_false, if_false]
    exact ⟨_, _, _, h1, trivial⟩
end
end Go.Proofs.YtkcgokkgefgcjaaGreatDoor.AS
end
section
namespace Go.Proofs.YtkcgokkgefgcjaaGreatDoor.AS
open Go.Proofs.YtkcgokkgefgcjaaGreatDoor.H Go.Proofs.YtkcgokkgefgcjaaGreatDoor.G0 Go.Proofs.YtkcgokkgefgcjaaGreatDoor.G1
set_option linter.unusedVariables false
set_option linter.unusedSimpArgs false
set_option maxRecDepth 100000
section
variable {b s : HS} {g : Nat} {G : GG} {all A : HV} {ps : List (Nat × GM)} {o : Option DD} {K : Nat}
theorem GSt.is {b' : HS} (h : GSt b' s g G all A ps o) (hle : HS.le b b') (hall : RowV b' 2 all G.all.length (rows topC G.all)) : IsG b s g G := ⟨b', all, A, ps, o, hle, hall, h⟩
theorem forms1_all (G : GG) : G.forms1.all = G.all := by unfold GG.forms1; simp only; split <;> rfl
theorem forms_all (G : GG) : G.forms.all = G.all := by unfold GG.forms; split; exact forms1_all G; rfl
theorem outs_all (G : GG) (p : GM → Bool) : (G.outs p).all = G.all := rfl
theorem goes_all (G : GG) (now : Int) : (G.goes now).all = G.all := by
  have h1 : ∀ G : GG, G.goes1.all = G.all := fun G => by
    unfold GG.goes1
    simp only
    rw [forms_all]
    repeat' split
    all_goals first | rfl | (show (GG.prepares _).all = _; rw [prepares_all]; rfl)
  unfold GG.goes GG.goes2
  split
  · rw [prepares_all, outs_all, h1]
  · rw [h1]
theorem upd_all (G : GG) (id : By) (f : GM → GM) : (G.upd id f).all = G.all := by unfold GG.upd; split <;> rfl
theorem heard_all (G : GG) (id : By) (gen now : Int) : (G.heard id gen now).1.all = G.all := by
  unfold GG.heard
  simp only
  split
  · rw [upd_all, goes_all]
  · exact goes_all _ _
theorem Bd.upd (h : Bd K G) (id : By) (f : GM → GM) (hf : ∀ m, m ∈ G.l → 0 ≤ (f m).heard ∧ (f m).heard ≤ 1125899906842624 ∧ (f m).tp.length ≤ 1000000) : Bd K (G.upd id f) := by
  unfold GG.upd
  cases hi : G.at_ id with
  | none => exact h
  | some i =>
    have hi' : i < G.l.length := (List.findIdx?_eq_some_iff_getElem.1 hi).1
    refine ⟨h.now, h.since, fun m hm => ?_, h.gen, by show (G.l.set _ _).length ≤ K; rw [List.length_set]; exact h.len, h.all, h.sh, h.k⟩
    rcases List.mem_or_eq_of_mem_set (show m ∈ G.l.set i _ from hm) with hm | rfl
    · exact h.mem m hm
    · exact hf _ (getD_memD gm0 hi')
theorem Bd.heard {id : By} {gen now : Int} (h : Bd K G) (hk : K + 1 ≤ 1000000) (hn : now ≤ 1125899906842624) : Bd (K + 1) (G.heard id gen now).1 := by
  have h1 := h.goes hk hn
  unfold GG.heard
  simp only
  split
  · exact h1.upd id (fun m => { m with heard := (G.goes now).now }) fun m hm => ⟨h1.now.1, h1.now.2, (h1.mem m hm).2.2⟩
  · exact h1
theorem tickI (h : IsG b s g G) (hb : Bd K G) (hk : K + 1 ≤ 1000000) {a : HV} {al : List Top} (ha : ARow a al) (hal : al.length ≤ 1000) {now : Int} (hn : now ≤ 1125899906842624) :
    HC Tryz.prog 23 [.ptr g 0, a, .lit (.int .i64 now)] s (fun v t => IsG b t g (G.tick al now)) := by
  obtain ⟨b1, all, A, ps, o, h1, h2, h3⟩ := h
  refine (tick17 h3 hb hk ha hal hn).mono ?_
  rintro v t ⟨b2, all2, A2, ps2, o2, k1, k2, k3⟩
  exact k3.is (HS.le.trans h1 k1) (by rw [show (G.tick al now).all = al from goes_all _ _]; exact k2)
theorem heardI (h : IsG b s g G) (hb : Bd K G) (hk : K + 1 ≤ 1000000) (id : By) (gen : Int) {now : Int} (hn : now ≤ 1125899906842624) :
    HC Tryz.prog 41 [.ptr g 0, strV id, .lit (.int .i64 gen), .lit (.int .i64 now)] s (fun v t => ∃ b' all A ps o, HS.le b b' ∧ RowV b' 2 all (G.heard id gen now).1.all.length (rows topC (G.heard id gen now).1.all) ∧ GSt b' t g (G.heard id gen now).1 all A ps o ∧ v = .tup [if (G.heard id gen now).2 = 0 then ptrAt ps ((G.heard id gen now).1.at_ id) else .lit (.pointer none), .lit (.int .i64 (G.heard id gen now).2)]) := by
  obtain ⟨b1, all, A, ps, o, h1, h2, h3⟩ := h
  refine (heard33 h3 h2 hb hk id gen hn).mono ?_
  rintro v t ⟨A2, ps2, o2, k3, k4⟩
  exact ⟨b1, all, A2, ps2, o2, h1, by rw [heard_all]; exact h2, k3, k4⟩
theorem beat16 (h : IsG b s g G) (hb : Bd K G) (hk : K + 1 ≤ 1000000) (id : By) (gen : Int) {now : Int} (hn : now ≤ 1125899906842624) :
    HC Tryz.prog 16 [.ptr g 0, strV id, .lit (.int .i64 gen), .lit (.int .i64 now)] s (fun v t => IsG b t g (G.heard id gen now).1 ∧ v = .lit (.int .i64 (G.heard id gen now).2)) := by
  refine HC16 ?_
  unfold c16
  refine (heardI h hb hk id gen hn).mono ?_
  rintro v t ⟨b1, all, A, ps, o, h1, h2, h3, rfl⟩
  simp only [vExtract, List.getElem?_cons_succ, List.getElem?_cons_zero, bindO]
  exact ⟨h3.is h1 h2, trivial⟩
theorem plain35 : plainFn Tryz.prog 43 = true := by unfold plainFn; rw [Tryz.func43]; rfl
theorem heard0 {id : By} {gen now : Int} (h : (G.heard id gen now).2 = 0) : ∃ i, (G.heard id gen now).1.at_ id = some i := by
  unfold GG.heard at h ⊢
  simp only at h ⊢
  by_cases he : (G.goes now).fenceE id gen = 0
  · rw [if_pos he]
    simp only
    rw [at_ids (upd_ids (G.goes now) id (fun m => { m with heard := (G.goes now).now }) fun m => rfl)]
    unfold GG.fenceE at he
    cases hi : (G.goes now).at_ id with
    | none => rw [hi] at he; cases he
    | some i => exact ⟨i, rfl⟩
  · rw [if_neg he] at h
    exact absurd h he
theorem sync12 (h : IsG b s g G) (hb : Bd K G) (hk : K + 1 ≤ 1000000) (id : By) (gen : Int) {now : Int} (hn : now ≤ 1125899906842624) :
    HC Tryz.prog 14 [.ptr g 0, strV id, .lit (.int .i64 gen), .lit (.int .i64 now)] s (fun v t => IsG b t g (G.sync id gen now).1 ∧ ∃ o' : Option (List Slot), v = .tup [rowV slC 2 o', .lit (.int .i64 (G.sync id gen now).2.2)] ∧ o'.getD [] = (G.sync id gen now).2.1) := by
  refine HC14 ?_
  unfold c14
  refine (heardI h hb hk id gen hn).mono ?_
  rintro v t ⟨b1, all, A, ps, o, h1, h2, h3, rfl⟩
  simp only [vExtract, List.getElem?_cons_succ, List.getElem?_cons_zero, bindO, neq_24]
  have hb1 := hb.heard (id := id) (gen := gen) hk hn
  have h0 := heard0 (G := G) (id := id) (gen := gen) (now := now)
  unfold GG.sync
  generalize G.heard id gen now = r at *
  obtain ⟨G1, e⟩ := r
  simp only at *
  by_cases he : e = 0
  · subst he
    obtain ⟨i, hi⟩ := h0 rfl
    have hlt := at_lt h3 hi
    have hm := getD_memD p0 hlt
    simp only [decide_true, Bool.not_true, hcond, if_true, hi, ptrAt, hvNil, hvFld]
    refine store1 (h3.mem _ hm).2.1 (by simp [gmC]) (hc_bool _) (ho_bool _) rfl ?_
    have h4 := h3.updId hi (fun m => { m with synced := true })
    rw [show (gmC (ps.getD i p0).2).set 4 (.lit (.bool true)) = gmC { (ps.getD i p0).2 with synced := true } from rfl]
    have hb2 : Bd (K + 1) (G1.upd id fun m => { m with synced := true }) := hb1.upd _ _ fun m hm => hb1.mem m hm
    have ha2 := upd_all G1 id (fun m => { m with synced := true })
    generalize (G1.upd id fun m => { m with synced := true }) = G2 at *
    generalize (ps.set i _) = ps2 at *
    generalize t.set _ _ = t2 at *
    clear h3
    refine Join.of (fun xs u => GSt b1 u g (if G2.state = 3 ∧ G2.l.all (·.synced) = true then G2.enter 4 else G2) all A ps2 o) ?_ ?_
    · rintro _ u h5
      simp only [h5.ld, gC, List.getElem?_cons_succ, List.getElem?_cons_zero]
      have esh : (if G2.state = 3 ∧ G2.l.all (·.synced) = true then G2.enter 4 else G2).shares = G2.shares := by split <;> rfl
      have eall : (if G2.state = 3 ∧ G2.l.all (·.synced) = true then G2.enter 4 else G2).all = G2.all := by split <;> rfl
      have hosh := h4.sh
      have hbsh := hb2.sh
      rw [← hosh] at hbsh
      refine (of21 o id u (by omega) (fun d hd => by have := hbsh.2 d hd; omega)).mono ?_
      rintro v w ⟨rfl, o', rfl, ho'⟩
      refine ⟨h5.is h1 (by rw [eall, ha2]; exact h2), o', rfl, ?_⟩
      rw [ho', hosh]
    · intro K9 hK9
      refine Join.of (fun xs u => u = t2 ∧ xs = [.lit (.bool (decide (G2.state = 3) && G2.l.all (·.synced)))]) ?_ ?_
      · rintro _ u ⟨rfl, rfl⟩
        simp only [List.headD_cons]
        cases hc : decide (G2.state = 3) && G2.l.all (·.synced) with
        | true =>
          simp only [Bool.and_eq_true, decide_eq_true_eq] at hc
          simp only [hcond]
          refine (enter36 h4 4).mono ?_
          rintro v w ⟨h5, -⟩
          refine hK9 _ _ ?_
          rw [if_pos hc]
          exact h5
        | false =>
          simp only [hcond]
          refine hK9 _ _ ?_
          rw [if_neg (fun hh => by rw [decide_eq_true hh.1, hh.2] at hc; cases hc)]
          exact h4
      · intro K12 hK12
        simp only [h4.ld, gC, List.getElem?_cons_succ, List.getElem?_cons_zero, eql_n]
        by_cases hs : G2.state = 3
        · simp only [hs, decide_true]
          refine (each34 h4 (hb2.pslen h4) (·.synced) (fn := 43) (fcaps := []) (fun u hu x hx K hK => ?_)).mono ?_
          · have h5 := h4.mono hu
            simp only [hcall, hite_eq, plain35, if_true, List.append_nil]
            refine HC43 ?_
            unfold c43
            simp only [hvNil, hvFld, bindO, h5.ldm hx, gmC, List.getElem?_cons_succ, List.getElem?_cons_zero]
            exact hK
          · rintro v w ⟨rfl, rfl⟩
            exact hK12 _ _ ⟨rfl, by rw [hs]; rfl⟩
        · simp only [hs, decide_false]
          exact hK12 _ _ ⟨rfl, by simp [hs]⟩
  · simp only [he, decide_false, Bool.not_false, hcond, if_false]
    exact ⟨h3.is h1 h2, none, rfl, rfl⟩
theorem state14 (h : IsG b s g G) : HC Tryz.prog 15 [.ptr g 0] s (fun v t => t = s ∧ v = .lit (.int .i64 G.state)) := by
  obtain ⟨b1, all, A, ps, o, h1, h2, h3⟩ := h
  refine HC15 ?_
  unfold c15
  simp only [eqp23, bindO, hcond, hvNil, hvFld, h3.ld, gC, List.getElem?_cons_succ, List.getElem?_cons_zero]
  exact ⟨trivial, trivial⟩
theorem gen13 (h : IsG b s g G) : HC Tryz.prog 27 [.ptr g 0] s (fun v t => t = s ∧ v = .lit (.int .i64 G.gen)) := by
  obtain ⟨b1, all, A, ps, o, h1, h2, h3⟩ := h
  refine HC27 ?_
  unfold c27
  simp only [eqp23, bindO, hcond, hvNil, hvFld, h3.ld, gC, List.getElem?_cons_succ, List.getElem?_cons_zero]
  exact ⟨trivial, trivial⟩
theorem fence23 (h : IsG b s g G) (hb : Bd K G) (id : By) (gen : Int) : HC Tryz.prog 25 [.ptr g 0, strV id, .lit (.int .i64 gen)] s (fun v t => t = s ∧ v = .lit (.int .i64 (G.fenceE id gen))) := by
  obtain ⟨b1, all, A, ps, o, h1, h2, h3⟩ := h
  refine HC25 ?_
  unfold c25
  refine (fence44 h3 (hb.pslen h3) id gen).mono ?_
  rintro v t ⟨rfl, rfl⟩
  simp only [vExtract, List.getElem?_cons_succ, List.getElem?_cons_zero, bindO]
  exact ⟨trivial, trivial⟩
end
end Go.Proofs.YtkcgokkgefgcjaaGreatDoor.AS
end
section
namespace Go.Proofs.YtkcgokkgefgcjaaGreatDoor.AS
open Go.Proofs.YtkcgokkgefgcjaaGreatDoor.H Go.Proofs.YtkcgokkgefgcjaaGreatDoor.G0 Go.Proofs.YtkcgokkgefgcjaaGreatDoor.G1
set_option linter.unusedVariables false
set_option linter.unusedSimpArgs false
set_option maxRecDepth 100000
section
variable {b s : HS} {g : Nat} {G : GG} {all A : HV} {ps : List (Nat × GM)} {o : Option DD} {K : Nat}
theorem dig1 : ∀ n : Fin 10, (ByteArray.mk #[48, 49, 50, 51, 52, 53, 54, 55, 56, 57, 97, 98, 99, 100, 101, 102, 103, 104, 105, 106, 107, 108, 109, 110, 111, 112, 113, 114, 115, 116, 117, 118, 119, 120, 121, 122]).extract n.val (n.val + 1) = ⟨#[UInt8.ofNat (48 + n.val)]⟩ := by decide +kernel
theorem dig2 : ∀ n : Fin 100, (ByteArray.mk #[48, 48, 48, 49, 48, 50, 48, 51, 48, 52, 48, 53, 48, 54, 48, 55, 48, 56, 48, 57, 49, 48, 49, 49, 49, 50, 49, 51, 49, 52, 49, 53, 49, 54, 49, 55, 49, 56, 49, 57, 50, 48, 50, 49, 50, 50, 50, 51, 50, 52, 50, 53, 50, 54, 50, 55, 50, 56, 50, 57, 51, 48, 51, 49, 51, 50, 51, 51, 51, 52, 51, 53, 51, 54, 51, 55, 51, 56, 51, 57, 52, 48, 52, 49, 52, 50, 52, 51, 52, 52, 52, 53, 52, 54, 52, 55, 52, 56, 52, 57, 53, 48, 53, 49, 53, 50, 53, 51, 53, 52, 53, 53, 53, 54, 53, 55, 53, 56, 53, 57, 54, 48, 54, 49, 54, 50, 54, 51, 54, 52, 54, 53, 54, 54, 54, 55, 54, 56, 54, 57, 55, 48, 55, 49, 55, 50, 55, 51, 55, 52, 55, 53, 55, 54, 55, 55, 55, 56, 55, 57, 56, 48, 56, 49, 56, 50, 56, 51, 56, 52, 56, 53, 56, 54, 56, 55, 56, 56, 56, 57, 57, 48, 57, 49, 57, 50, 57, 51, 57, 52, 57, 53, 57, 54, 57, 55, 57, 56, 57, 57]).extract (2 * n.val) (2 * n.val + 2) = ⟨#[UInt8.ofNat (48 + n.val / 10), UInt8.ofNat (48 + n.val % 10)]⟩ := by decide +kernel
theorem strC_len (x : By) : (strC x).length = 1 := rfl
theorem strSl (ba : ByteArray) {lo hi : Nat} (h1 : lo ≤ hi) (h2 : hi ≤ ba.size) : vStrSlice (.lit (.string ba)) (some (.lit (.int .i64 (lo : Int)))) (some (.lit (.int .i64 (hi : Int)))) = some (.lit (.string (ba.extract lo hi))) := by
  unfold vStrSlice cutAt
  simp only [intAt]
  rw [if_pos ⟨by omega, by omega, by omega, by simp⟩]
  simp
theorem itoa28 {n : Nat} (hn : n < 100) : HC Tryz.prog 36 [.lit (.int .i64 (n : Int))] s (fun v t => t = s ∧ v = strV (decL n)) := by
  refine HC36 ?_
  unfold c36
  refine HC64 ?_
  unfold c64
  refine HC79 ?_
  unfold c79
  simp only [eql_n, bindO, hcond, decide_true]
  refine Join.of (fun xs t => t = s ∧ xs = [.lit (.bool true)]) ?_ ?_
  rotate_left
  · intro K2 hK2
    simp only [leq_n, lss_n, show decide ((0 : Int) ≤ (n : Int)) = true from by simp, show decide ((n : Int) < 100) = true from by simp; omega]
    exact hK2 _ _ ⟨rfl, rfl⟩
  rintro _ t ⟨rfl, rfl⟩
  simp only [List.headD_cons]
  refine HC90 ?_
  unfold c90
  by_cases h : n < 10
  · simp only [lss_n, bindO, hcond, show decide ((n : Int) < 10) = true from by simp; omega]
    rw [show vBin .add (.lit (.int .i64 (n : Int))) (.lit (.int .i64 1)) = some (.lit (.int .i64 ((n + 1 : Nat) : Int))) from add_i (a := n) (b := 1) (by omega)]
    simp only
    rw [strSl _ (by omega) (by show n + 1 ≤ 36; omega), dig1 ⟨n, h⟩]
    simp only
    rw [decL_small h]
    exact ⟨trivial, rfl⟩
  · simp only [lss_n, bindO, hcond, show decide ((n : Int) < 10) = false from by simp; omega]
    rw [show vBin .mul (.lit (.int .i64 (n : Int))) (.lit (.int .i64 2)) = some (.lit (.int .i64 ((2 * n : Nat) : Int))) from by
      simp only [vBin, if_true]
      rw [w64 (by omega) (by omega)]
      congr 3
      omega]
    simp only
    rw [show vBin .add (.lit (.int .i64 ((2 * n : Nat) : Int))) (.lit (.int .i64 2)) = some (.lit (.int .i64 ((2 * n + 2 : Nat) : Int))) from add_i (a := 2 * n) (b := 2) (by omega)]
    simp only
    rw [strSl _ (by omega) (by show 2 * n + 2 ≤ 200; omega), dig2 ⟨n, hn⟩]
    simp only
    rw [decL_big h, decL_small (show n / 10 < 10 by omega)]
    exact ⟨trivial, rfl⟩
/-- slices.Equal over topics. -/
theorem equal29 (oa ob : Option (List By)) (s : HS) (hl : (oa.getD []).length ≤ 1000000000) : HC Tryz.prog 37 [rowV strC 1 oa, rowV strC 1 ob] s (fun v t => t = s ∧ v = .lit (.bool (decide (oa.getD [] = ob.getD [])))) := by
  refine HC37 ?_
  unfold c37
  have i1 := fun i hi => idx_rowV strC_len ([] : By) oa (i := i) hi
  have i2 := fun i hi => idx_rowV strC_len ([] : By) ob (i := i) hi
  rw [show vLenT (Tryz.prog.underlying 33) s (rowV strC 1 oa) = some (.lit (.int .i64 (((oa.getD []).length : Nat) : Int))) from len_rowV oa s, show vLenT (Tryz.prog.underlying 33) s (rowV strC 1 ob) = some (.lit (.int .i64 (((ob.getD []).length : Nat) : Int))) from len_rowV ob s]
  simp only [bindO]
  generalize oa.getD [] = la at *
  generalize ob.getD [] = lb at *
  rw [neq_n]
  by_cases hn : la.length = lb.length
  · simp only [hn, decide_true, Bool.not_true, hcond]
    rw [← hn]
    refine HLoop.ghost (σ := Nat) (fun i => [.lit (.int .i64 (i : Int))]) (fun i t => i ≤ la.length ∧ t = s ∧ la.take i = lb.take i) (fun i => la.length - i) 0 rfl ⟨Nat.zero_le _, rfl, by simp⟩ ?_
    rintro i t K ⟨h1, rfl, h3⟩ hK
    simp only [List.headD_cons, lss_i]
    by_cases hi : i < la.length
    · have la1 := take_succ' ([] : By) la hi
      have lb1 := take_succ' ([] : By) lb (by omega : i < lb.length)
      have d1 := drop_cons' ([] : By) la hi
      have d2 := drop_cons' ([] : By) lb (by omega : i < lb.length)
      have l0 : ∀ x : By, vLoad t (.elt (strC x) 0) 1 false = some (strV x) := fun x => rfl
      simp only [hi, decide_true, hcond, i1 i hi, i2 i (by omega), l0, neq_s]
      by_cases he : la.getD i [] = lb.getD i []
      · simp only [he, decide_true, Bool.not_true, inc_i hi (by omega)]
        exact hK (i + 1) _ _ rfl ⟨hi, rfl, by rw [la1, lb1, h3, he]⟩ (by omega)
      · simp only [he, decide_false, Bool.not_false]
        refine ⟨trivial, ?_⟩
        congr 2
        symm
        rw [decide_eq_false_iff_not]
        rintro rfl
        exact he rfl
    · obtain rfl : i = la.length := by omega
      simp only [hi, decide_false, hcond]
      refine ⟨trivial, ?_⟩
      rw [List.take_length, hn, List.take_length] at h3
      simp [h3]
  · simp only [hn, decide_false, Bool.not_false, hcond]
    refine ⟨trivial, ?_⟩
    congr 2
    symm
    rw [decide_eq_false_iff_not]
    rintro rfl
    exact hn rfl
/-- slices.Clone of topics. -/
theorem clone30 (o : Option (List By)) (s : HS) (hl : (o.getD []).length ≤ 1000000000) : HC Tryz.prog 38 [rowV strC 1 o] s (fun v t => t = s ∧ v = rowL strC 1 (o.getD [])) := by
  refine HC.up (Q := fun v t => t = s ∧ v = rowL strC 1 (o.getD [])) ?_
  refine HC.mono (Q := fun v t => ∃ o' : Option (List By), UpL [v] t [rowV strC 1 o'] s ∧ o'.getD [] = o.getD []) ?_ ?_
  rotate_left
  · rintro v t ⟨o', h1, h2⟩
    refine ⟨rowL strC 1 (o.getD []), s, ?_, rfl, rfl⟩
    rw [← h2]
    cases o' with
    | some l => exact h1
    | none => exact h1.trans (up_lit_nil 1 (le_refl' s))
  cases o with
  | none =>
    refine HC38 ?_
    unfold c38
    exact ⟨none, UpL.refl _ _, rfl⟩
  | some l =>
    have hgo : HC Tryz.prog 38 [.ne 1] s (fun v t => l = [] → ∃ o' : Option (List By), UpL [v] t [rowV strC 1 o'] s ∧ o'.getD [] = []) := by
      refine HC38 ?_
      unfold c38
      rw [show vCmp (Tryz.prog.underlying 33) .eql (.ne 1) (.lit (.slice none 0 0)) = some (.lit (.bool false)) from rfl]
      simp only [bindO, hcond]
      refine hBS0 fun id hid => ?_
      refine app_empty (b := s) (le_set_new _ (le_refl' s) hid) hid (set_at _ _ _) (x := .ne 1) (xs := []) (k := 0) rfl rfl rfl ⟨by omega, by omega⟩ fun A' t' k1 k2 _ => ⟨some [], acc0_upL k1 k2, rfl⟩
    cases l with
    | nil =>
      refine HC.nilOr (pre := []) (post := []) ?_ ?_
      · refine HC38 ?_
        unfold c38
        exact ⟨some [], UpL.trans (up_lit_nil 1 (le_refl' s)) (UpL.refl _ _), rfl⟩
      · exact hgo.mono fun v t h => h rfl
    | cons x l =>
      refine HC38 ?_
      unfold c38
      rw [show vCmp (Tryz.prog.underlying 33) .eql (rowV strC 1 (some (x :: l))) (.lit (.slice none 0 0)) = some (.lit (.bool false)) from rfl]
      simp only [bindO, hcond]
      refine hBS0 fun id hid => ?_
      simp only [Option.getD_some] at hl
      refine app_empty (b := s) (le_set_new _ (le_refl' s) hid) hid (set_at _ _ _) (x := rowV strC 1 (some (x :: l))) (xs := rows strC (x :: l)) (k := (x :: l).length) (lcells_rowL _ _) rfl (rows_len strC_len _) ⟨by omega, by omega⟩ fun A' t' k1 k2 => ⟨some (x :: l), acc0_upL k1 k2, rfl⟩
end
end Go.Proofs.YtkcgokkgefgcjaaGreatDoor.AS
end
section
namespace Go.Proofs.YtkcgokkgefgcjaaGreatDoor.AS
open Go.Proofs.YtkcgokkgefgcjaaGreatDoor.H Go.Proofs.YtkcgokkgefgcjaaGreatDoor.G0 Go.Proofs.YtkcgokkgefgcjaaGreatDoor.G1
set_option linter.unusedVariables false
set_option linter.unusedSimpArgs false
set_option maxRecDepth 100000
def ids (G : GG) : List By := G.l.map GM.id
def GG.leader (G : GG) : By := match G.l with
  | [] => []
  | m :: _ => m.id
def GG.sharesA (G : GG) : DD := if G.state < 3 then [] else G.shares
def GG.new (session rebalance gen : Int) (round : Bool) : GG := ⟨session, rebalance, round, 1, gen, 0, 0, 0, [], [], []⟩
section
variable {b s : HS} {g : Nat} {G : GG} {all A : HV} {ps : List (Nat × GM)} {o : Option DD} {K : Nat}
theorem members11 (h : IsG b s g G) (hb : Bd K G) : HC Tryz.prog 29 [.ptr g 0] s (fun v t => t = s ∧ v = rowL strC 1 (ids G)) := by
  obtain ⟨b1, all, A, ps, o, h1, h2, h3⟩ := h
  have hl := hb.pslen h3
  refine HC.up (HC29 ?_)
  unfold c29
  have hA : ∀ u, vLenT (Tryz.prog.underlying 51) u A = some (.lit (.int .i64 (ps.length : Int))) := fun u => h3.acc.len _ _
  simp only [eqp23, bindO, hcond, hvNil, hvFld, h3.ld, gC, List.getElem?_cons_succ, List.getElem?_cons_zero, hA]
  have hids : ids G = ps.map fun p => p.2.id := by unfold ids; rw [h3.l, List.map_map]; rfl
  rw [hids]
  refine HLoop.ghost (σ := HV × Nat) (fun x => [x.1, .lit (.int .i64 (x.2 : Int))]) (fun x t => x.2 ≤ ps.length ∧ HS.le s t ∧ Acc s t 1 x.1 x.2 (rows strC ((ps.take x.2).map fun p => p.2.id))) (fun x => ps.length - x.2) (nilV, 0) rfl ⟨Nat.zero_le _, le_refl' s, Acc.nil _ _ _⟩ ?_
  rintro ⟨L, i⟩ t K' ⟨g1, g2, g3⟩ hK
  simp only at g1 g2 g3
  simp only [List.headD_cons, List.tail_cons, lss_i]
  by_cases hlt : i < ps.length
  · have h4 := h3.mono g2
    obtain ⟨q, -, x1, -, x2⟩ := h4.acc.at_ pC_len p0 .i64 hlt
    have x3 := x2 0 (by omega) 1
    rw [Nat.add_zero] at x3
    have hm := getD_memD p0 hlt
    have htk := take_succ' p0 ps hlt
    simp only [hlt, decide_true, x1, x3, pC, List.getElem?_cons_zero, hvNil, hvFld, h4.ldm hm, gmC]
    refine g3.app1 g2 (hc_string _) rfl rfl ⟨by omega, by omega⟩ fun L' w k1 k2 k3 => ?_
    simp only [inc_i hlt (by omega)]
    refine hK (L', i + 1) _ _ rfl ⟨hlt, k2, ?_⟩ (by show ps.length - (i + 1) < ps.length - i; omega)
    show Acc s w 1 L' (i + 1) (rows strC ((ps.take (i + 1)).map _))
    rw [htk, List.map_append, rows_app]
    exact k1
  · obtain rfl : i = ps.length := by omega
    rw [List.take_length] at g3
    simp only [hlt, decide_false]
    refine ⟨_, s, acc0_upL (.inl g3) g2, rfl, ?_⟩
    unfold rowL
    rw [List.length_map]
theorem leader26 (h : IsG b s g G) (hb : Bd K G) : HC Tryz.prog 31 [.ptr g 0] s (fun v t => t = s ∧ v = strV G.leader) := by
  obtain ⟨b1, all, A, ps, o, h1, h2, h3⟩ := h
  have hl := hb.pslen h3
  refine HC31 ?_
  unfold c31
  have hA : ∀ u, vLenT (Tryz.prog.underlying 51) u A = some (.lit (.int .i64 (ps.length : Int))) := fun u => h3.acc.len _ _
  refine Join.of (fun xs t => t = s ∧ xs = [.lit (.bool (decide (ps.length = 0)))]) ?_ ?_
  rotate_left
  · intro K1 hK1
    simp only [eqp23, bindO, hcond, hvNil, hvFld, h3.ld, gC, List.getElem?_cons_succ, List.getElem?_cons_zero, hA, eql_n]
    refine hK1 _ _ ⟨rfl, ?_⟩
    congr 3
    simp
  rintro _ t ⟨rfl, rfl⟩
  simp only [List.headD_cons]
  unfold GG.leader
  have hl := h3.l
  cases hp : ps with
  | nil =>
    rw [hp] at hl
    rw [hl]
    simp only [List.length_nil, decide_true, hcond]
    exact ⟨trivial, rfl⟩
  | cons p r =>
    rw [← hp]
    have hlt : 0 < ps.length := by rw [hp]; exact Nat.succ_pos _
    rw [show decide (ps.length = 0) = false from by rw [decide_eq_false_iff_not]; omega]
    obtain ⟨q, -, x1, -, x2⟩ := h3.acc.at_ pC_len p0 .i64 hlt
    have x3 := x2 0 (by omega) 1
    rw [Nat.add_zero] at x3
    have hm := getD_memD p0 hlt
    rw [show (((0 : Nat)) : Int) = 0 from rfl] at x1
    have e : G.l = p.2 :: r.map Prod.snd := by rw [hl, hp]; rfl
    have ep : ps.getD 0 p0 = p := by rw [hp]; rfl
    rw [ep] at x3 hm
    simp only [hcond, bindO, hvNil, hvFld, h3.ld, gC, List.getElem?_cons_succ, List.getElem?_cons_zero, x1, x3, pC, h3.ldm hm, gmC]
    rw [e]
    exact ⟨trivial, rfl⟩
theorem mk_shE (d : By × List Slot) : vMk [(0, 1), (1, 1)] [.lit (.string .empty), .lit (.slice none 0 0)] [(0, strV d.1), (1, slV d.2)] = some (.agg (shE d)) := by
  obtain ⟨o', e1, -⟩ := slV_row d.2
  unfold shE
  rw [e1]
  cases o' <;> rfl
theorem clone43 (l : List Slot) (s : HS) (hl : l.length ≤ 1000000000) : HC Tryz.prog 61 [slV l] s (fun v t => t = s ∧ v = slV l) := by
  refine HC.up (HC61 ?_)
  unfold c61
  cases l with
  | nil => exact ⟨_, s, UpL.refl _ _, rfl, rfl⟩
  | cons x l =>
    rw [show vCmp (Tryz.prog.underlying 46) .eql (slV (x :: l)) (.lit (.slice none 0 0)) = some (.lit (.bool false)) from rfl]
    simp only [bindO, hcond]
    refine hBS0 fun id hid => ?_
    exact app_empty (b := s) (le_set_new _ (le_refl' s) hid) hid (set_at _ _ _) (x := slV (x :: l)) (xs := rows slC (x :: l)) (k := (x :: l).length) (lcells_rowL (x :: l) _) rfl (rows_len slC_len _) ⟨by omega, by omega⟩ fun A' t' k1 k2 => ⟨slV (x :: l), s, acc0_upL k1 k2, rfl, rfl⟩
theorem shares22 (h : IsG b s g G) (hb : Bd K G) : HC Tryz.prog 34 [.ptr g 0] s (fun v t => t = s ∧ v = rowL shE 2 G.sharesA) := by
  obtain ⟨b1, all, A, ps, o, h1, h2, h3⟩ := h
  refine HC.up (HC34 ?_)
  unfold c34
  refine Join.of (fun xs t => t = s ∧ xs = [.lit (.bool (decide (G.state < 3)))]) ?_ ?_
  rotate_left
  · intro K1 hK1
    simp only [eqp23, bindO, hcond, hvNil, hvFld, h3.ld, gC, List.getElem?_cons_succ, List.getElem?_cons_zero, lss_n]
    exact hK1 _ _ ⟨rfl, rfl⟩
  rintro _ t ⟨rfl, rfl⟩
  simp only [List.headD_cons]
  unfold GG.sharesA
  by_cases hs : G.state < 3
  · simp only [hs, decide_true, hcond, if_true]
    exact ⟨_, t, up_lit_nil 2 (le_refl' t), rfl, rfl⟩
  · simp only [hs, decide_false, hcond, if_false, bindO, hvNil, hvFld, h3.ld, gC, List.getElem?_cons_succ, List.getElem?_cons_zero]
    have hsh := h3.sh
    have hbs := hb.sh
    have i1 := fun i hi => idx_rowV shE_len d0 o (i := i) hi
    rw [show vLenT (Tryz.prog.underlying 52) t (rowV shE 2 o) = some (.lit (.int .i64 (((o.getD []).length : Nat) : Int))) from len_rowV o t]
    rw [hsh] at i1 ⊢
    simp only
    generalize G.shares = D at *
    refine HLoop.ghost (σ := HV × Nat) (fun x => [x.1, .lit (.int .i64 (x.2 : Int))]) (fun x u => x.2 ≤ D.length ∧ HS.le t u ∧ Acc t u 2 x.1 x.2 (rows shE (D.take x.2))) (fun x => D.length - x.2) (nilV, 0) rfl ⟨Nat.zero_le _, le_refl' t, Acc.nil _ _ _⟩ ?_
    rintro ⟨L, i⟩ u K' ⟨g1, g2, g3⟩ hK
    simp only at g1 g2 g3
    simp only [List.headD_cons, List.tail_cons, lss_i]
    by_cases hlt : i < D.length
    · have htk := take_succ' d0 D hlt
      have hd := hbs.2 _ (getD_memD d0 hlt)
      simp only [hlt, decide_true, i1 i hlt, shE_l0]
      generalize D.getD i d0 = d at *
      refine new_store rfl rfl (fun x hx => shE_one [d] x (by rw [rows_one]; exact hx)) fun X hX => ?_
      have l1 : vLoad (u.set X (.cells (shE d))) (.ptr X (0 + 0)) 1 false = some (strV d.1) := load_cell 0 1 (set_at _ _ _)
      have l2 : vLoad (u.set X (.cells (shE d))) (.ptr X (0 + 1)) 1 false = some (slV d.2) := load_cell 1 1 (set_at _ _ _)
      have hle := le_set_new (.cells (shE d)) g2 hX
      have g4 : Acc t (u.set X (.cells (shE d))) 2 L i (rows shE (D.take i)) := g3.new _ hX
      generalize u.set X (.cells (shE d)) = u1 at *
      simp only [vField, l1, l2]
      refine (clone43 d.2 _ (by omega)).mono ?_
      rintro v w ⟨rfl, rfl⟩
      refine ⟨l1, ?_⟩
      simp only [mk_shE]
      refine g4.app1 hle (hc_agg _) rfl rfl ⟨by omega, by omega⟩ fun L' w k1 k2 k3 => ?_
      simp only [inc_i hlt (by omega)]
      refine hK (L', i + 1) _ _ rfl ⟨hlt, k2, ?_⟩ (by show D.length - (i + 1) < D.length - i; omega)
      show Acc t w 2 L' (i + 1) (rows shE (D.take (i + 1)))
      rw [htk, rows_app, rows_one]
      exact k1
    · obtain rfl : i = D.length := by omega
      rw [List.take_length] at g3
      simp only [hlt, decide_false]
      exact ⟨_, t, acc0_upL (.inl g3) g2, rfl, rfl⟩
theorem new9 {session rebalance gen : Int} {round : Bool} (h1 : 1 ≤ session ∧ session ≤ 1000000) (h2 : 1 ≤ rebalance ∧ rebalance ≤ 1000000) (h3 : 0 ≤ gen ∧ gen ≤ 1099511627776) (s : HS) :
    HC Tryz.prog 6 [.lit (.int .i64 session), .lit (.int .i64 rebalance), .lit (.int .i64 gen), .lit (.bool round)] s (fun v t => ∃ q, s q = none ∧ v = .tup [.ptr q 0, .lit (.int .i64 0)] ∧ IsG s t q (GG.new session rebalance gen round)) := by
  refine HC6 ?_
  unfold c6
  refine Join.of (fun xs t => t = s ∧ xs = [.lit (.bool false)]) ?_ ?_
  rotate_left
  · intro K1 hK1
    simp only [lss_n, gtr_n, bindO, hcond, show decide (session < 1) = false from by simp; omega, show decide (1000000 < session) = false from by simp; omega, show decide (rebalance < 1) = false from by simp; omega, show decide (1000000 < rebalance) = false from by simp; omega, show decide (gen < 0) = false from by simp; omega, show decide (1099511627776 < gen) = false from by simp; omega]
    exact hK1 _ _ ⟨rfl, rfl⟩
  rintro _ t ⟨rfl, rfl⟩
  simp only [List.headD_cons, hcond]
  rw [show vMk [(0, 1), (1, 1), (2, 1), (3, 1), (4, 1), (5, 1), (6, 1), (7, 1), (8, 1), (9, 1), (10, 1)] [.lit (.int .i64 0), .lit (.int .i64 0), .lit (.bool false), .lit (.int .i64 0), .lit (.int .i64 0), .lit (.int .i64 0), .lit (.int .i64 0), .lit (.int .i64 0), .lit (.slice none 0 0), .lit (.slice none 0 0), .lit (.slice none 0 0)] [(0, .lit (.int .i64 session)), (1, .lit (.int .i64 rebalance)), (2, .lit (.bool round)), (3, (.lit (.int .i64 1))), (4, .lit (.int .i64 gen))] = some (.agg (gC (GG.new session rebalance gen round) nilV nilV none)) from rfl]
  simp only [bindO]
  refine hbox_intro (hc_agg _) fun q hq => ?_
  refine ⟨q, hq, rfl, t, nilV, nilV, [], none, le_refl' t, .inl ⟨rfl, rfl, rfl⟩, ⟨le_set_new _ (le_refl' t) hq, hq, set_at _ _ _, .inl ⟨rfl, rfl, rfl⟩, (by rintro ⟨⟩), (by rintro p ⟨⟩), List.nodup_nil, rfl, rfl⟩⟩
theorem new9_bad (s : HS) (round : Bool) (r g : Int) : HC Tryz.prog 6 [.lit (.int .i64 0), .lit (.int .i64 r), .lit (.int .i64 g), .lit (.bool round)] s (fun v t => t = s ∧ v = .tup [.lit (.pointer none), .lit (.int .i64 1)]) := by
  refine HC6 ?_
  unfold c6
  refine Join.of (fun xs t => t = s ∧ xs = [.lit (.bool true)]) ?_ ?_
  rotate_left
  · intro K1 hK1
    simp only [lss_n, bindO, hcond, show decide ((0 : Int) < 1) = true from rfl]
    exact hK1 _ _ ⟨rfl, rfl⟩
  rintro _ t ⟨rfl, rfl⟩
  simp only [List.headD_cons, hcond]
  exact ⟨trivial, trivial⟩
end
section
variable (s : HS)
end
end Go.Proofs.YtkcgokkgefgcjaaGreatDoor.AS
end
section
namespace Go.Proofs.YtkcgokkgefgcjaaGreatDoor.AS
open Go.Proofs.YtkcgokkgefgcjaaGreatDoor.H Go.Proofs.YtkcgokkgefgcjaaGreatDoor.G0 Go.Proofs.YtkcgokkgefgcjaaGreatDoor.G1
set_option linter.unusedVariables false
set_option linter.unusedSimpArgs false
set_option maxRecDepth 100000
namespace GG
def updAt (G : GG) (i : Nat) (f : GM → GM) : GG := { G with l := G.l.set i (f (G.l.getD i gm0)) }
def nm (G : GG) (id : By) : By := if id = [] then 109 :: decL (G.given + 1).toNat else id
def join2 (G : GG) (id : By) : GG := if id = [] then { G with given := G.given + 1, l := G.l ++ [⟨G.nm id, [], 0, false, false⟩] } else G
def joinI (G : GG) (id : By) : Nat := if id = [] then G.l.length else (G.at_ id).getD 0
noncomputable def join3 (G2 : GG) (i : Nat) (fresh : Bool) (tp : List By) : GG :=
  let G3 := G2.updAt i fun m => { m with heard := G2.now }
  if fresh = true ∨ G3.state = 2 ∨ (G3.l.getD i gm0).tp ≠ tp then
    let G4 := G3.updAt i fun m => { m with tp := tp }
    let G5 := if G4.state = 2 then G4 else G4.prepares
    (G5.updAt i fun m => { m with joined := true }).forms
  else G3
noncomputable def join1 (G1 : GG) (id : By) (tp : List By) : GG × By × Int × Int :=
  if 30 < tp.length then (G1, [], 0, 1)
  else if id = [] ∧ 20 ≤ G1.l.length then (G1, [], 0, 4)
  else if id ≠ [] ∧ G1.at_ id = none then (G1, [], 0, 13)
  else
    let G6 := (G1.join2 id).join3 (G1.joinI id) (decide (id = [])) tp
    (G6, G1.nm id, if G6.state = 2 then 0 else G6.gen, if G6.state = 2 then 14 else 0)
noncomputable def join (G : GG) (id : By) (tp : List By) (al : List Top) (now : Int) : GG × By × Int × Int := (G.tick al now).join1 id tp
end GG
section
variable {b s : HS} {g : Nat} {G : GG} {all A : HV} {ps : List (Nat × GM)} {o : Option DD} {K : Nat}
theorem Bd.updAt {i : Nat} (h : Bd K G) (f : GM → GM) (hf : ∀ m, 0 ≤ m.heard ∧ m.heard ≤ 1125899906842624 ∧ m.tp.length ≤ 1000000 → 0 ≤ (f m).heard ∧ (f m).heard ≤ 1125899906842624 ∧ (f m).tp.length ≤ 1000000) : Bd K (G.updAt i f) := by
  unfold GG.updAt
  refine ⟨h.now, h.since, fun m hm => ?_, h.gen, by show (G.l.set _ _).length ≤ K; rw [List.length_set]; exact h.len, h.all, h.sh, h.k⟩
  rcases List.mem_or_eq_of_mem_set (show m ∈ G.l.set i _ from hm) with hm | rfl
  · exact h.mem m hm
  · by_cases hi : i < G.l.length
    · exact hf _ (h.mem _ (getD_memD gm0 hi))
    · have : G.l.getD i gm0 = gm0 := by rw [List.getD, List.getElem?_eq_none (by omega)]; rfl
      rw [this]
      exact hf gm0 ⟨by decide, by decide, by decide⟩
theorem GSt.updAt (h : GSt b s g G all A ps o) {i : Nat} (hi : i < ps.length) (f : GM → GM) : GSt b (s.set (ps.getD i p0).1 (.cells (gmC (f (ps.getD i p0).2)))) g (G.updAt i f) all A (ps.set i ((ps.getD i p0).1, f (ps.getD i p0).2)) o := h.upd hi f
/-- A member is as it is, but for its topics perhaps. -/
structure Mid (b u : HS) (g : Nat) (G : GG) (all A : HV) (ps : List (Nat × GM)) (o : Option DD) (i : Nat) (tv : HV) : Prop where
  hi : i < ps.length
  cell : u (ps.getD i p0).1 = some (.cells ((gmC (ps.getD i p0).2).set 1 tv))
  set_ : ∀ m, GSt b (u.set (ps.getD i p0).1 (.cells (gmC m))) g { G with l := G.l.set i m } all A (ps.set i ((ps.getD i p0).1, m)) o
  l : G.l = ps.map Prod.snd
theorem Mid.at_ {u : HS} {i : Nat} {tv : HV} (h : Mid b u g G all A ps o i tv) : u g = some (.cells (gC G all A o)) := by
  have h1 := (h.set_ gm0).at_
  have h2 := (h.set_ gm0).mem ((ps.getD i p0).1, gm0) (List.mem_iff_getElem.2 ⟨i, by rw [List.length_set]; exact h.hi, by rw [List.getElem_set_self]⟩)
  rw [set_ne _ _ (Ne.symm h2.2.2.1)] at h1
  exact h1
theorem Mid.ne {u : HS} {i : Nat} {tv : HV} (h : Mid b u g G all A ps o i tv) : (ps.getD i p0).1 ≠ g :=
  ((h.set_ gm0).mem ((ps.getD i p0).1, gm0) (List.mem_iff_getElem.2 ⟨i, by rw [List.length_set]; exact h.hi, by rw [List.getElem_set_self]⟩)).2.2.1
theorem Mid.get {u : HS} {i : Nat} {tv : HV} (h : Mid b u g G all A ps o i tv) : G.l.getD i gm0 = (ps.getD i p0).2 := by
  rw [h.l, getD_get _ _ (by simpa using h.hi), getD_get _ _ h.hi, List.getElem_map]
theorem GSt.mid (h : GSt b s g G all A ps o) {i : Nat} (hi : i < ps.length) : Mid b s g G all A ps o i (rowL strC 1 (ps.getD i p0).2.tp) :=
  ⟨hi, (h.mem _ (getD_memD p0 hi)).2.1, fun m => by
    have := h.upd hi fun _ => m
    exact this, h.l⟩
theorem updAt_two (G : GG) (i : Nat) (f1 f2 : GM → GM) (hi : i < G.l.length) : (G.updAt i f1).updAt i f2 = G.updAt i fun m => f2 (f1 m) := by
  unfold GG.updAt
  simp only [List.set_set]
  rw [show (G.l.set i (f1 (G.l.getD i gm0))).getD i gm0 = f1 (G.l.getD i gm0) from by rw [getD_get _ _ (by rw [List.length_set]; exact hi), List.getElem_set_self]]
theorem prepares_ids (G : GG) : G.prepares.l.map GM.id = G.l.map GM.id := by
  unfold GG.prepares
  split
  · rfl
  · show (G.l.map _).map GM.id = _
    rw [List.map_map]
    rfl
theorem GSt.idAt (h : GSt b s g G all A ps o) {i : Nat} (hi : i < ps.length) : (G.l.map GM.id).getD i [] = (ps.getD i p0).2.id := by
  rw [h.l, getD_get _ _ (by simpa using hi), getD_get _ _ hi]
  simp
theorem fst_at {ps ps' : List (Nat × GM)} (h : ps'.map Prod.fst = ps.map Prod.fst) (i : Nat) : (ps'.getD i p0).1 = (ps.getD i p0).1 := by
  have : ∀ l : List (Nat × GM), (l.getD i p0).1 = (l.map Prod.fst).getD i 0 := fun l => by
    by_cases hi : i < l.length
    · rw [getD_get _ _ hi, getD_get _ _ (by simpa using hi), List.getElem_map]
    · rw [List.getD, List.getD, List.getElem?_eq_none (by omega), List.getElem?_eq_none (by simpa using hi)]
      rfl
  rw [this, this, h]
theorem addM (h : GSt b s g G all A ps o) {q : Nat} (hq : s q = none) (ob : HObj) {A' : HV} {t : HS} (hacc : AccX b t 1 A' (ps.length + 1) (rows pC ps ++ [.ptr q 0])) (hle : HS.le b t)
    (hk : ∀ k o', accId A ≠ some k → (s.set q ob) k = some o' → t k = some o' ∧ accId A' ≠ some k) (m : GM) (G' : GG) (hG : G'.l = G.l ++ [m]) (hsh : G'.shares = G.shares) :
    GSt b ((t.set g (.cells (gC G' all A' o))).set q (.cells (gmC m))) g G' all A' (ps ++ [(q, m)]) o := by
  have hne : ∀ k o', s k = some o' → k ≠ q := fun k o' hk' e => by rw [e, hq] at hk'; cases hk'
  have hgq := hne _ _ h.at_
  have hbq := none_of_le h.le hq
  have hAq : accId A ≠ some q := fun e => by obtain ⟨-, r, h2⟩ := h.acc.free e; rw [hq] at h2; cases h2
  have kg := hk g _ h.accg (by rw [set_ne _ _ hgq]; exact h.at_)
  have kq := hk q _ hAq (set_at _ _ _)
  refine ⟨le_set_free _ (le_set_free _ hle h.free) hbq, h.free, by rw [set_ne _ _ hgq]; exact set_at _ _ _, ?_, kg.2, fun p hp => ?_, ?_, ?_, ?_⟩
  · have : AccX b t 1 A' (ps ++ [(q, m)]).length (rows pC (ps ++ [(q, m)])) := by
      rw [List.length_append, rows_app, rows_one]
      exact hacc
    exact (this.put _ kg.2).put _ kq.2
  · rcases List.mem_append.1 hp with hp | hp
    · obtain ⟨h1, h2, h3, h4⟩ := h.mem p hp
      have hpq := hne _ _ h2
      have kp := hk p.1 _ h4 (by rw [set_ne _ _ hpq]; exact h2)
      exact ⟨h1, by rw [set_ne _ _ hpq, set_ne _ _ h3]; exact kp.1, h3, kp.2⟩
    · rw [List.mem_singleton.1 hp]
      exact ⟨hbq, set_at _ _ _, Ne.symm hgq, kq.2⟩
  · rw [List.map_append, List.nodup_append]
    refine ⟨h.nodup, by simp, fun x hx y hy => ?_⟩
    obtain ⟨p, hp, rfl⟩ := List.mem_map.1 hx
    simp only [List.map_cons, List.map_nil, List.mem_singleton] at hy
    subst hy
    exact hne _ _ (h.mem p hp).2.1
  · rw [hG, h.l, List.map_append]
    rfl
  · rw [hsh]; exact h.sh
theorem given_goes (G : GG) (now : Int) : (G.goes now).given = G.given := by
  have hp : ∀ G : GG, G.prepares.given = G.given := fun G => by unfold GG.prepares; split <;> rfl
  have hf : ∀ G : GG, G.forms.given = G.given := fun G => by
    unfold GG.forms GG.forms1
    simp only
    repeat' split
    all_goals rfl
  have h1 : ∀ G : GG, G.goes1.given = G.given := fun G => by
    unfold GG.goes1
    simp only
    rw [hf]
    repeat' split
    all_goals first | rfl | (show (GG.prepares _).given = _; rw [hp]; rfl)
  unfold GG.goes GG.goes2
  split
  · rw [hp]; exact h1 _
  · exact h1 _
theorem join3_all (G : GG) (i : Nat) (f : Bool) (tp : List By) : (G.join3 i f tp).all = G.all := by
  unfold GG.join3
  simp only
  split
  · rw [forms_all]
    show (if _ then _ else _ : GG).all = _
    split
    · rfl
    · rw [prepares_all]; rfl
  · rfl
theorem join2_all (G : GG) (id : By) : (G.join2 id).all = G.all := by unfold GG.join2; split <;> rfl
end
end Go.Proofs.YtkcgokkgefgcjaaGreatDoor.AS
end
section
namespace Go.Proofs.YtkcgokkgefgcjaaGreatDoor.AS
open Go.Proofs.YtkcgokkgefgcjaaGreatDoor.H Go.Proofs.YtkcgokkgefgcjaaGreatDoor.G0 Go.Proofs.YtkcgokkgefgcjaaGreatDoor.G1
set_option linter.unusedVariables false
set_option linter.unusedSimpArgs false
set_option maxRecDepth 100000
section
variable {b s : HS} {g : Nat} {G : GG} {all A : HV} {ps : List (Nat × GM)} {o : Option DD} {K : Nat}
theorem nil_pt (ps : List (Nat × GM)) (x : Option Nat) : vCmp (Tryz.prog.underlying 79) .eql (ptrAt ps x) (.lit (.pointer none)) = some (.lit (.bool (decide (x = none)))) := by
  cases x with
  | none => rw [ptrAt, eqn69]; rfl
  | some i => rw [ptrAt, eqp69]; rfl
theorem join10 (h : IsG b s g G) (hb : Bd K G) (hk : K + 3 ≤ 1000000) {a : HV} {al : List Top} (ha : ARow a al) (hal : al.length ≤ 1000) {now : Int} (hn : now ≤ 1125899906842624) (hg : 0 ≤ G.given ∧ G.given < 99) (id : By) (ot : Option (List By)) (hot : (ot.getD []).length ≤ 1000000) :
    HC Tryz.prog 13 [.ptr g 0, strV id, rowV strC 1 ot, a, .lit (.int .i64 now)] s (fun v t => IsG b t g (G.join id (ot.getD []) al now).1 ∧ v = .tup [strV (G.join id (ot.getD []) al now).2.1, .lit (.int .i64 (G.join id (ot.getD []) al now).2.2.1), .lit (.int .i64 (G.join id (ot.getD []) al now).2.2.2)]) := by
  obtain ⟨b1, all, A, ps, o, h1, h2, h3⟩ := h
  refine HC13 ?_
  unfold c13
  simp only [eqp23, bindO, hcond]
  refine (tick17 h3 hb (by omega) ha hal hn).mono ?_
  rintro _ t1 ⟨b2, all2, A2, ps2, o2, k1, k2, k3⟩
  have hb1 : Bd (K + 1) (G.tick al now) := (hb.setAll hal).goes (by omega) hn
  have hall1 : (G.tick al now).all = al := goes_all _ _
  have hg1 : (G.tick al now).given = G.given := given_goes _ _
  have hle : HS.le b b2 := HS.le.trans h1 k1
  unfold GG.join
  generalize G.tick al now = G1 at *
  rw [← hg1] at hg
  rw [← hall1] at k2
  clear h1 h2 h3 hg1 k1 ps o A all hall1
  refine (find27 k3 (hb1.pslen k3) id).mono ?_
  rintro _ t ⟨rfl, rfl⟩
  rw [show vLenT (Tryz.prog.underlying 33) t (rowV strC 1 ot) = some (.lit (.int .i64 (((ot.getD []).length : Nat) : Int))) from len_rowV ot t]
  simp only [gtr_n]
  unfold GG.join1
  by_cases hlen : 30 < (ot.getD []).length
  · simp only [show decide ((30 : Int) < ((ot.getD []).length : Int)) = true from by simp; omega, hlen, if_true]
    exact ⟨k3.is hle k2, by trivial⟩
  simp only [show decide ((30 : Int) < ((ot.getD []).length : Int)) = false from by simp; omega, hlen, if_false]
  have hA2 : ∀ u, vLenT (Tryz.prog.underlying 51) u A2 = some (.lit (.int .i64 (ps2.length : Int))) := fun u => k3.acc.len _ _
  refine Join.of (fun xs u => u = t ∧ xs = [.lit (.bool (decide (id = [] ∧ 20 ≤ G1.l.length)))]) ?_ ?_
  rotate_left
  · intro K8 hK8
    rw [show (HV.lit (.string { data := #[] })) = strV [] from rfl]
    simp only [eql_s]
    by_cases hid : id = []
    · simp only [hid, decide_true, hvNil, hvFld, k3.ld, gC, List.getElem?_cons_succ, List.getElem?_cons_zero, hA2, geq_n]
      refine hK8 _ _ ⟨rfl, ?_⟩
      rw [k3.len]
      congr 3
      simp [hid]
      omega
    · simp only [hid, decide_false]
      exact hK8 _ _ ⟨rfl, by simp [hid]⟩
  rintro _ u ⟨rfl, rfl⟩
  simp only [List.headD_cons]
  by_cases hfull : id = [] ∧ 20 ≤ G1.l.length
  · simp only [hfull, decide_true, if_true, and_self]
    exact ⟨k3.is hle k2, by trivial⟩
  rw [if_neg hfull, show decide (id = [] ∧ 20 ≤ G1.l.length) = false from decide_eq_false hfull]
  simp only
  refine Join.of (fun xs t => t = u ∧ xs = [.lit (.bool (decide (id ≠ [] ∧ G1.at_ id = none)))]) ?_ ?_
  rotate_left
  · intro K17 hK17
    rw [show (HV.lit (.string { data := #[] })) = strV [] from rfl]
    simp only [neq_s]
    by_cases hid : id = []
    · simp only [hid, decide_true, Bool.not_true]
      exact hK17 _ _ ⟨rfl, by simp [hid]⟩
    · simp only [hid, decide_false, Bool.not_false, nil_pt]
      refine hK17 _ _ ⟨rfl, ?_⟩
      congr 3
      simp [hid]
  rintro _ t ⟨rfl, rfl⟩
  simp only [List.headD_cons]
  by_cases hno : id ≠ [] ∧ G1.at_ id = none
  · rw [if_pos hno, show decide (id ≠ [] ∧ G1.at_ id = none) = true from decide_eq_true hno]
    simp only
    exact ⟨k3.is hle k2, by trivial⟩
  rw [if_neg hno, show decide (id ≠ [] ∧ G1.at_ id = none) = false from decide_eq_false hno]
  simp only
  rw [show (HV.lit (.string { data := #[] })) = strV [] from rfl]
  simp only [eql_s]
  -- the member
  refine Join.of (fun xs u => ∃ A' ps' tv, xs = [.ptr (ps'.getD (G1.joinI id) p0).1 0] ∧ Mid b2 u g (G1.join2 id) all2 A' ps' o2 (G1.joinI id) tv ∧ (decide (id = []) = false → tv = rowL strC 1 (ps'.getD (G1.joinI id) p0).2.tp) ∧ (ps'.getD (G1.joinI id) p0).2.id = G1.nm id) ?_ ?_
  rotate_left
  · intro K23 hK23
    by_cases hid : id = []
    · subst hid
      simp only [decide_true, hvNil, hvFld, k3.ld, gC, List.getElem?_cons_succ, List.getElem?_cons_zero]
      rw [add_n (a := G1.given) (b := 1) (by omega) (by omega)]
      refine store1 k3.at_ (by simp [gC]) (hc_int _ _) (ho_int _ _) rfl ?_
      have k4 := k3.putG { G1 with given := G1.given + 1 } all2 o2 rfl k3.sh
      rw [show (gC G1 all2 A2 o2).set 5 (.lit (.int .i64 (G1.given + 1))) = gC { G1 with given := G1.given + 1 } all2 A2 o2 from rfl]
      generalize t.set g (.cells (gC { G1 with given := G1.given + 1 } all2 A2 o2)) = t3 at *
      simp only [k4.ld, gC, List.getElem?_cons_succ, List.getElem?_cons_zero]
      obtain ⟨n, hn⟩ : ∃ n : Nat, G1.given + 1 = (n : Int) := ⟨(G1.given + 1).toNat, by omega⟩
      rw [hn]
      refine (itoa28 (n := n) (by omega)).mono ?_
      rintro v t4 ⟨rfl, rfl⟩
      rw [show (HV.lit (.string { data := #[109] })) = strV [109] from rfl, add_s (by have := decL_len 1 n (by omega); simp; omega)]
      simp only [List.cons_append, List.nil_append]
      have enm : G1.nm [] = 109 :: decL n := by unfold GG.nm; rw [if_pos rfl, hn]; rfl
      have e2 : G1.join2 [] = { G1 with given := (n : Int), l := G1.l ++ [⟨109 :: decL n, [], 0, false, false⟩] } := by unfold GG.join2; rw [if_pos rfl, enm, hn]
      have ei : G1.joinI [] = ps2.length := by unfold GG.joinI; rw [if_pos rfl, k3.len]
      rw [show vMk [(0, 1), (1, 1), (2, 1), (3, 1), (4, 1)] [.lit (.string .empty), .lit (.slice none 0 0), .lit (.int .i64 0), .lit (.bool false), .lit (.bool false)] [(0, strV (109 :: decL n))] = some (.agg [strV (109 :: decL n), nilV, .lit (.int .i64 0), .lit (.bool false), .lit (.bool false)]) from rfl]
      simp only
      refine hbox_intro (hc_agg _) fun q hq => ?_
      have k5 := k4.mono (le_set_new (.cells [strV (109 :: decL n), nilV, .lit (.int .i64 0), .lit (.bool false), .lit (.bool false)]) (le_refl' t4) hq)
      simp only [k5.ld, gC, List.getElem?_cons_succ, List.getElem?_cons_zero]
      refine k5.acc.app1 k5.le (by omega) (hc_ptr _ _) rfl rfl ⟨by have := hb1.pslen k3; omega, by have := hb1.pslen k3; omega⟩ fun A3 t6 g1 g2 g3 => ?_
      have kg := (g3 g _ k5.accg k5.at_).1
      refine store1 kg (by simp [gC]) g1.hc g1.one rfl ?_
      rw [show (gC { G1 with given := G1.given + 1 } all2 A2 o2).set 9 A3 = gC { G1 with given := (n : Int), l := G1.l ++ [⟨109 :: decL n, [], 0, false, false⟩] } all2 A3 o2 from by rw [hn]; rfl]
      rw [ei, e2, enm] at hK23
      have hadd := fun m => addM k4 hq _ g1 g2 g3 m { G1 with given := (n : Int), l := G1.l ++ [m] } rfl rfl
      have eg : (ps2 ++ [(q, (⟨109 :: decL n, [], 0, false, false⟩ : GM))]).getD ps2.length p0 = (q, ⟨109 :: decL n, [], 0, false, false⟩) := by simp [List.getD]
      refine hK23 _ _ ⟨A3, ps2 ++ [(q, ⟨109 :: decL n, [], 0, false, false⟩)], nilV, by rw [eg], ⟨by simp, ?_, fun m => ?_, ?_⟩, by simp, by rw [eg]⟩
      · rw [eg]
        have hqg : q ≠ g := fun e => by rw [e, k4.at_] at hq; cases hq
        rw [set_ne _ _ hqg]
        have hAq : accId A2 ≠ some q := fun e => by obtain ⟨-, r, h2⟩ := k4.acc.free e; rw [hq] at h2; cases h2
        exact (g3 q _ hAq (set_at _ _ _)).1
      · rw [eg]
        have e1 : (ps2 ++ [(q, (⟨109 :: decL n, [], 0, false, false⟩ : GM))]).set ps2.length (q, m) = ps2 ++ [(q, m)] := by simp
        have e3 : (G1.l ++ [(⟨109 :: decL n, [], 0, false, false⟩ : GM)]).set ps2.length m = G1.l ++ [m] := by rw [← k3.len]; simp
        rw [e1]
        simp only
        rw [e3]
        exact hadd m
      · show G1.l ++ [_] = _
        rw [k3.l, List.map_append]
        rfl
    · simp only [hid, decide_false]
      obtain ⟨i, hi⟩ : ∃ i, G1.at_ id = some i := by
        cases hi : G1.at_ id with
        | none => exact absurd ⟨hid, hi⟩ hno
        | some i => exact ⟨i, rfl⟩
      have ei : G1.joinI id = i := by unfold GG.joinI; rw [if_neg hid, hi]; rfl
      have e2 : G1.join2 id = G1 := by unfold GG.join2; rw [if_neg hid]
      have enm : G1.nm id = id := by unfold GG.nm; rw [if_neg hid]
      rw [ei, e2, enm] at hK23
      have hlt := at_lt k3 hi
      rw [hi]
      refine hK23 _ _ ⟨A2, ps2, _, rfl, k3.mid hlt, fun _ => rfl, ?_⟩
      have := (List.findIdx?_eq_some_iff_getElem.1 (show G1.l.findIdx? _ = some i from hi)).2.1
      simp only [k3.l, List.getElem_map, decide_eq_true_eq] at this
      rw [getD_get _ _ hlt]
      exact this
  rintro _ u ⟨A3, ps3, tv, rfl, hmid, htv, hnm⟩
  have hall2 : (G1.join2 id).all = G1.all := join2_all _ _
  have hb2 : Bd (K + 2) (G1.join2 id) := by
    unfold GG.join2
    split
    · refine ⟨hb1.now, hb1.since, fun m hm => ?_, ?_, ?_, hb1.all, hb1.sh, by omega⟩
      · rcases List.mem_append.1 (show m ∈ G1.l ++ [_] from hm) with hm | hm
        · exact hb1.mem m hm
        · rw [List.mem_singleton.1 hm]; exact ⟨Int.le_refl 0, by show (0 : Int) ≤ _; omega, by simp⟩
      · have := hb1.gen; exact ⟨this.1, by show G1.gen ≤ _; omega⟩
      · show (G1.l ++ [_]).length ≤ _
        have := hb1.len
        simp; omega
    · exact hb1.mono (by omega) (by omega)
  rw [← hall2] at k2
  generalize G1.join2 id = G2 at *
  generalize G1.joinI id = i at *
  generalize G1.nm id = nm at *
  obtain ⟨fr, hfr⟩ : ∃ fr, decide (id = []) = fr := ⟨_, rfl⟩
  rw [hfr] at htv ⊢
  clear hno hfull hfr k3 hA2 hg hb1
  have hne := hmid.ne
  have hget := hmid.get
  have lg : ∀ k, vLoad u (.ptr g k) 1 false = (gC G2 all2 A3 o2)[k]? := fun k => load_cell k 1 hmid.at_
  simp only [List.headD_cons, hvNil, hvFld, lg, gC, List.getElem?_cons_succ, List.getElem?_cons_zero]
  refine store1 hmid.cell (by simp [gmC]) (hc_int _ _) (ho_int _ _) rfl ?_
  have lg1 : ∀ k, vLoad (u.set (ps3.getD i p0).1 (.cells (((gmC (ps3.getD i p0).2).set 1 tv).set 2 (.lit (.int .i64 G2.now))))) (.ptr g k) 1 false = (gC G2 all2 A3 o2)[k]? := fun k => load_cell k 1 (by rw [set_ne _ _ (Ne.symm hne)]; exact hmid.at_)
  have lm1 : ∀ k, vLoad (u.set (ps3.getD i p0).1 (.cells (((gmC (ps3.getD i p0).2).set 1 tv).set 2 (.lit (.int .i64 G2.now))))) (.ptr (ps3.getD i p0).1 k) 1 false = (((gmC (ps3.getD i p0).2).set 1 tv).set 2 (.lit (.int .i64 G2.now)))[k]? := fun k => load_cell k 1 (set_at _ _ _)
  have at1 := set_at u (ps3.getD i p0).1 (.cells (((gmC (ps3.getD i p0).2).set 1 tv).set 2 (.lit (.int .i64 G2.now))))
  have e3 : { G2 with l := G2.l.set i { (ps3.getD i p0).2 with heard := G2.now } } = G2.updAt i fun m => { m with heard := G2.now } := by unfold GG.updAt; rw [hget]
  have e4 : ∀ tp : List By, { G2 with l := G2.l.set i { (ps3.getD i p0).2 with heard := G2.now, tp := tp } } = (G2.updAt i fun m => { m with heard := G2.now }).updAt i fun m => { m with tp := tp } := fun tp => by
    rw [updAt_two _ _ _ _ (by rw [hmid.l]; simpa using hmid.hi)]
    unfold GG.updAt
    rw [hget]
  have hset := hmid.set_
  have hlt3 := hmid.hi
  have tp3 : ((G2.updAt i fun m => { m with heard := G2.now }).l.getD i gm0).tp = (ps3.getD i p0).2.tp := by
    rw [← e3]
    show ((G2.l.set i _).getD i gm0).tp = _
    rw [getD_get _ _ (by rw [List.length_set, hmid.l]; simpa using hlt3), List.getElem_set_self]
  have hj3 : G2.join3 i fr (ot.getD []) = if (fr || decide (G2.state = 2) || !decide ((ps3.getD i p0).2.tp = ot.getD [])) = true then
      (((if ((G2.updAt i fun m => { m with heard := G2.now }).updAt i fun m => { m with tp := ot.getD [] }).state = 2 then ((G2.updAt i fun m => { m with heard := G2.now }).updAt i fun m => { m with tp := ot.getD [] }) else ((G2.updAt i fun m => { m with heard := G2.now }).updAt i fun m => { m with tp := ot.getD [] }).prepares).updAt i fun m => { m with joined := true }).forms) else G2.updAt i fun m => { m with heard := G2.now } := by
    unfold GG.join3
    simp only
    rw [tp3]
    have est : (G2.updAt i fun m => { m with heard := G2.now }).state = G2.state := rfl
    rw [est]
    simp only [Bool.or_eq_true, Bool.not_eq_true', decide_eq_true_eq, decide_eq_false_iff_not, or_assoc, ne_eq]
  generalize hu1 : u.set (ps3.getD i p0).1 (.cells (((gmC (ps3.getD i p0).2).set 1 tv).set 2 (.lit (.int .i64 G2.now)))) = u1 at *
  refine Join.of (fun xs t => ∃ A' ps' o', GSt b2 t g (G2.join3 i fr (ot.getD [])) all2 A' ps' o' ∧ ∃ p ∈ ps', p.1 = (ps3.getD i p0).1 ∧ p.2.id = nm) ?_ ?_
  · rintro _ t ⟨A5, ps5, o5, h5, p, hp, hp1, hp2⟩
    have lp := h5.ldm hp 0
    rw [hp1] at lp
    have hall3 : (G2.join3 i fr (ot.getD [])).all = G2.all := join3_all _ _ _ _
    rw [← hall3] at k2
    generalize G2.join3 i fr (ot.getD []) = G6 at *
    simp only [h5.ld, gC, List.getElem?_cons_succ, List.getElem?_cons_zero, eql_n]
    by_cases hs : G6.state = 2
    · simp only [hs, decide_true, lp, gmC, List.getElem?_cons_zero, if_true]
      exact ⟨h5.is hle k2, by rw [hp2]⟩
    · simp only [hs, decide_false, lp, gmC, List.getElem?_cons_zero, if_false, h5.ld, gC, List.getElem?_cons_succ]
      exact ⟨trivial, h5.is hle k2, by rw [hp2]⟩
  intro K58 hK58
  refine Join.of (fun xs t => t = u1 ∧ xs = [.lit (.bool (fr || decide (G2.state = 2) || !decide ((ps3.getD i p0).2.tp = ot.getD [])))]) ?_ ?_
  rotate_left
  · intro K61 hK61
    cases hfr : fr with
    | true =>
      simp only
      exact hK61 _ _ ⟨rfl, by rw [hfr]; rfl⟩
    | false =>
      simp only [lg1, gC, List.getElem?_cons_succ, List.getElem?_cons_zero, eql_n]
      by_cases hs : G2.state = 2
      · simp only [hs, decide_true]
        exact hK61 _ _ ⟨rfl, by rw [hfr, hs]; rfl⟩
      · have l1 : vLoad u1 (.ptr (ps3.getD i p0).1 1) 1 false = some (rowV strC 1 (some (ps3.getD i p0).2.tp)) := by rw [lm1, htv hfr]; rfl
        simp only [hs, decide_false, l1]
        have htp3 : ((some (ps3.getD i p0).2.tp).getD []).length ≤ 1000000000 := by
          have := (hb2.mem (ps3.getD i p0).2 (by rw [hmid.l]; exact List.mem_map.2 ⟨_, getD_memD p0 hlt3, rfl⟩)).2.2
          simp only [Option.getD_some]
          omega
        refine (equal29 _ ot u1 htp3).mono ?_
        rintro v t ⟨rfl, rfl⟩
        simp only [vUn, Option.getD_some]
        exact hK61 _ _ ⟨rfl, by rw [hfr, decide_eq_false hs]; rfl⟩
  rintro _ t ⟨rfl, rfl⟩
  simp only [List.headD_cons]
  cases hc : fr || decide (G2.state = 2) || !decide ((ps3.getD i p0).2.tp = ot.getD []) with
  | false =>
    simp only
    rw [hc] at hj3
    simp only [Bool.false_eq_true, if_false] at hj3
    have hfr : fr = false := by simp only [Bool.or_eq_false_iff] at hc; exact hc.1.1
    have h3 := hset { (ps3.getD i p0).2 with heard := G2.now }
    rw [e3, ← hj3] at h3
    have ecell : ((gmC (ps3.getD i p0).2).set 1 tv).set 2 (.lit (.int .i64 G2.now)) = gmC { (ps3.getD i p0).2 with heard := G2.now } := by rw [htv hfr]; rfl
    rw [ecell] at hu1
    rw [hu1] at h3
    exact hK58 _ _ ⟨_, _, _, h3, ((ps3.getD i p0).1, { (ps3.getD i p0).2 with heard := G2.now }), List.mem_iff_getElem.2 ⟨i, by rw [List.length_set]; exact hlt3, by rw [List.getElem_set_self]⟩, rfl, hnm⟩
  | true =>
    simp only
    rw [hc] at hj3
    simp only [if_true] at hj3
    refine (clone30 ot t (by omega)).mono ?_
    rintro v t' ⟨rfl, rfl⟩
    refine store1 at1 (by simp [gmC]) (hc_rowV strC 1 (some (ot.getD []))) (ho_rowV strC 1 (some (ot.getD []))) rfl ?_
    rw [← hu1, set_set]
    rw [show (((gmC (ps3.getD i p0).2).set 1 tv).set 2 (.lit (.int .i64 G2.now))).set 1 (rowL strC 1 (ot.getD [])) = gmC { (ps3.getD i p0).2 with heard := G2.now, tp := ot.getD [] } from rfl]
    have h4 := hset { (ps3.getD i p0).2 with heard := G2.now, tp := ot.getD [] }
    rw [e4] at h4
    have hb4 : Bd (K + 2) ((G2.updAt i fun m => { m with heard := G2.now }).updAt i fun m => { m with tp := ot.getD [] }) :=
      (hb2.updAt (fun m => { m with heard := G2.now }) (fun m hm => ⟨hb2.now.1, hb2.now.2, hm.2.2⟩)).updAt (fun m => { m with tp := ot.getD [] }) (fun m hm => ⟨hm.1, hm.2.1, hot⟩)
    have ha4 : ((G2.updAt i fun m => { m with heard := G2.now }).updAt i fun m => { m with tp := ot.getD [] }).all = G2.all := rfl
    have hlt4 : i < (ps3.set i ((ps3.getD i p0).1, { (ps3.getD i p0).2 with heard := G2.now, tp := ot.getD [] })).length := by rw [List.length_set]; exact hlt3
    have hat4 : (ps3.set i ((ps3.getD i p0).1, { (ps3.getD i p0).2 with heard := G2.now, tp := ot.getD [] })).getD i p0 = ((ps3.getD i p0).1, { (ps3.getD i p0).2 with heard := G2.now, tp := ot.getD [] }) := by
      rw [getD_get _ _ hlt4, List.getElem_set_self]
    generalize ((G2.updAt i fun m => { m with heard := G2.now }).updAt i fun m => { m with tp := ot.getD [] }) = G4 at *
    generalize u.set (ps3.getD i p0).1 (.cells (gmC { (ps3.getD i p0).2 with heard := G2.now, tp := ot.getD [] })) = u2 at h4 ⊢
    have hq4 : ((ps3.set i ((ps3.getD i p0).1, { (ps3.getD i p0).2 with heard := G2.now, tp := ot.getD [] })).getD i p0).1 = (ps3.getD i p0).1 := by rw [hat4]
    have hid4 : ((ps3.set i ((ps3.getD i p0).1, { (ps3.getD i p0).2 with heard := G2.now, tp := ot.getD [] })).getD i p0).2.id = nm := by rw [hat4]; exact hnm
    generalize (ps3.set i ((ps3.getD i p0).1, { (ps3.getD i p0).2 with heard := G2.now, tp := ot.getD [] })) = ps4 at *
    refine Join.of (fun _ w => ∃ ps5, GSt b2 w g (if G4.state = 2 then G4 else G4.prepares) all2 A3 ps5 o2 ∧ ps5.map Prod.fst = ps4.map Prod.fst) ?_ ?_
    rotate_left
    · intro K79 hK79
      simp only [h4.ld, gC, List.getElem?_cons_succ, List.getElem?_cons_zero, neq_i3]
      by_cases hs : G4.state = 2
      · simp only [hs, decide_true, Bool.not_true]
        exact hK79 _ _ ⟨ps4, by rw [if_pos hs]; exact h4, rfl⟩
      · simp only [hs, decide_false, Bool.not_false]
        refine (prepares31 h4 (hb4.pslen h4)).mono ?_
        rintro v w ⟨ps5, h5, h6⟩
        exact hK79 _ _ ⟨ps5, by rw [if_neg hs]; exact h5, h6⟩
    rintro _ w ⟨ps5, h5, h6⟩
    have hids : (if G4.state = 2 then G4 else G4.prepares).l.map GM.id = G4.l.map GM.id := by
      split
      · rfl
      · exact prepares_ids G4
    have ha5 : (if G4.state = 2 then G4 else G4.prepares).all = G4.all := by
      split
      · rfl
      · exact prepares_all G4
    have hb5 : Bd (K + 2) (if G4.state = 2 then G4 else G4.prepares) := by
      split
      · exact hb4
      · exact hb4.prepares
    generalize (if G4.state = 2 then G4 else G4.prepares) = G5 at *
    have hlt5 : i < ps5.length := by
      have := congrArg List.length h6
      rw [List.length_map, List.length_map] at this
      omega
    have hq5 : (ps5.getD i p0).1 = (ps3.getD i p0).1 := (fst_at h6 i).trans hq4
    have hid5 : (ps5.getD i p0).2.id = nm := by rw [← h5.idAt hlt5, hids, h4.idAt hlt4, hid4]
    have hm5 := getD_memD p0 hlt5
    rw [← hq5]
    refine store1 (h5.mem _ hm5).2.1 (by simp [gmC]) (hc_bool _) (ho_bool _) rfl ?_
    rw [show (gmC (ps5.getD i p0).2).set 3 (.lit (.bool true)) = gmC { (ps5.getD i p0).2 with joined := true } from rfl]
    have h7 := h5.updAt hlt5 (fun m => { m with joined := true })
    have hb7 := hb5.updAt (i := i) (fun m => { m with joined := true }) (fun m hm => hm)
    have hall7 : RowV b2 2 all2 (G5.updAt i fun m => { m with joined := true }).all.length (rows topC (G5.updAt i fun m => { m with joined := true }).all) := by
      show RowV b2 2 all2 G5.all.length (rows topC G5.all)
      rw [ha5, ha4]
      exact k2
    refine (forms32 h7 hall7 hb7).mono ?_
    rintro v x ⟨A', ps', o', h8, h9⟩
    obtain ⟨p, p1, p2, p3⟩ := h9 ((ps5.getD i p0).1, { (ps5.getD i p0).2 with joined := true }) (List.mem_iff_getElem.2 ⟨i, by rw [List.length_set]; exact hlt5, by rw [List.getElem_set_self]⟩) rfl
    rw [← hj3] at h8
    exact hK58 _ _ ⟨A', ps', o', h8, p, p1, p2.trans hq5, p3.trans hid5⟩
end
end Go.Proofs.YtkcgokkgefgcjaaGreatDoor.AS
end
section
namespace Go.Proofs.YtkcgokkgefgcjaaGreatDoor.AS
open Go.Proofs.YtkcgokkgefgcjaaGreatDoor.H Go.Proofs.YtkcgokkgefgcjaaGreatDoor.G0 Go.Proofs.YtkcgokkgefgcjaaGreatDoor.G1
set_option linter.unusedVariables false
set_option linter.unusedSimpArgs false
set_option maxRecDepth 100000
section
variable {b s : HS} {g : Nat} {G : GG} {all A : HV} {ps : List (Nat × GM)} {o : Option DD} {K : Nat}
theorem plain42 : plainFn Tryz.prog 56 = true := by unfold plainFn; rw [Tryz.func56]; rfl
theorem leave21 (h : IsG b s g G) (hb : Bd K G) (hk : K + 2 ≤ 1000000) {a : HV} {al : List Top} (ha : ARow a al) (hal : al.length ≤ 1000) {now : Int} (hn : now ≤ 1125899906842624) (id : By) :
    HC Tryz.prog 21 [.ptr g 0, strV id, a, .lit (.int .i64 now)] s (fun v t => IsG b t g (G.leave id al now).1 ∧ v = .lit (.int .i64 (G.leave id al now).2)) := by
  obtain ⟨b1, all, A, ps, o, h1, h2, h3⟩ := h
  refine HC21 ?_
  unfold c21
  refine hbox_intro (hc_string _) fun x1 hx1 => ?_
  have hx := h3.grow hx1 (.cells [strV id])
  have hbx : HS.le b1 (b1.set x1 (.cells [strV id])) := le_set_new _ (le_refl' b1) (none_of_le h3.le hx1)
  have e1 := set_at b1 x1 (.cells [strV id])
  change GSt (b1.set x1 (.cells [strV id])) (s.set x1 (.cells [HV.lit (.string ⟨id.toArray⟩)])) g G all A ps o at hx
  generalize b1.set x1 (.cells [strV id]) = c at *
  generalize s.set x1 (.cells [HV.lit (.string ⟨id.toArray⟩)]) = s1 at *
  refine (tick17 hx hb (by omega) ha hal hn).mono ?_
  rintro _ t ⟨b2, all2, A2, ps2, o2, k1, k2, k3⟩
  have hb1 : Bd (K + 1) (G.tick al now) := (hb.setAll hal).goes (by omega) hn
  have hall1 : (G.tick al now).all = al := goes_all _ _
  have hle : HS.le b b2 := HS.le.trans h1 (HS.le.trans hbx k1)
  have ex := k1 _ _ e1
  unfold GG.leave
  generalize G.tick al now = G1 at *
  rw [← hall1] at k2
  clear hx h1 h2 h3 hbx e1 hall1
  have lx : ∀ u, u x1 = some (.cells [strV id]) → vLoad u (.ptr x1 0) 1 false = some (strV id) := fun u hu => load_cell 0 1 hu
  refine Join.of (fun xs u => u = t ∧ xs = [.lit (.bool (decide (G1.at_ id = none)))]) ?_ ?_
  rotate_left
  · intro K5 hK5
    simp only [eqp23, bindO, hcond, lx t (k3.le _ _ ex)]
    refine (find27 k3 (hb1.pslen k3) id).mono ?_
    rintro _ u ⟨rfl, rfl⟩
    simp only [nil_pt]
    exact hK5 _ _ ⟨rfl, rfl⟩
  rintro _ u ⟨rfl, rfl⟩
  simp only [List.headD_cons]
  cases hi : G1.at_ id with
  | none =>
    simp only [decide_true, hcond]
    exact ⟨k3.is hle k2, trivial⟩
  | some i =>
    simp only [show decide ((some i : Option Nat) = none) = false from rfl, hcond]
    refine (outs41 k3 (hb1.pslen k3) (fun m => decide (m.id = id)) (fn := 56) (fcaps := [.ptr x1 0]) (fun w hw x hx K hK => ?_)).mono ?_
    · have nx : accId A2 ≠ some x1 := fun e => by have := (k3.acc.free e).1; rw [ex] at this; cases this
      obtain ⟨m1, m2, m3, m4⟩ := k3.mem x hx
      have lm : vLoad w (.ptr x.1 0) 1 false = (gmC x.2)[0]? := load_cell 0 1 (hw _ _ m4 m2)
      simp only [hcall, hite_eq, plain42, if_true, List.cons_append, List.nil_append]
      refine HC56 ?_
      unfold c56
      simp only [hvNil, hvFld, bindO, lm, gmC, List.getElem?_cons_zero, lx w (hw _ _ nx (k3.le _ _ ex)), eql_s]
      exact hK
    · rintro _ w ⟨rfl, A3, h4⟩
      have hb2 := hb1.outs (fun m => decide (m.id = id))
      have ha2 : (G1.outs fun m => decide (m.id = id)).all = G1.all := rfl
      generalize (G1.outs fun m => decide (m.id = id)) = G2 at *
      generalize (ps2.filter fun x => !decide (x.2.id = id)) = ps3 at *
      rw [← ha2] at k2
      have hA3 : ∀ u, vLenT (Tryz.prog.underlying 51) u A3 = some (.lit (.int .i64 (ps3.length : Int))) := fun u => h4.acc.len _ _
      refine Join.of (fun _ x => ∃ A' ps', GSt b2 x g (if G2.state ≠ 2 ∨ G2.l = [] then G2.prepares else G2) all2 A' ps' o2) ?_ ?_
      rotate_left
      · intro K15 hK15
        refine Join.of (fun xs x => x = w ∧ xs = [.lit (.bool (decide (G2.state ≠ 2 ∨ G2.l = [])))]) ?_ ?_
        rotate_left
        · intro K18 hK18
          simp only [hvNil, hvFld, bindO, h4.ld, gC, List.getElem?_cons_succ, List.getElem?_cons_zero, neq_i3]
          by_cases hs : G2.state = 2
          · simp only [hs, decide_true, Bool.not_true, hcond, hvNil, hvFld, h4.ld, gC, List.getElem?_cons_succ, List.getElem?_cons_zero, hA3, eql_n]
            refine hK18 _ _ ⟨rfl, ?_⟩
            congr 3
            simp [hs, h4.nil]
          · simp only [hs, decide_false, Bool.not_false, hcond]
            exact hK18 _ _ ⟨rfl, by simp [hs]⟩
        rintro _ x ⟨rfl, rfl⟩
        simp only [List.headD_cons]
        by_cases hc : G2.state ≠ 2 ∨ G2.l = []
        · rw [decide_eq_true hc]
          simp only [hcond]
          refine (prepares31 h4 (hb2.pslen h4)).mono ?_
          rintro _ y ⟨ps5, h5, -⟩
          refine hK15 _ _ ⟨A3, ps5, ?_⟩
          rw [if_pos hc]
          exact h5
        · rw [decide_eq_false hc]
          simp only [hcond]
          refine hK15 _ _ ⟨A3, ps3, ?_⟩
          rw [if_neg hc]
          exact h4
      rintro _ x ⟨A5, ps5, h5⟩
      have hb5 : Bd (K + 1) (if G2.state ≠ 2 ∨ G2.l = [] then G2.prepares else G2) := by
        split
        · exact hb2.prepares
        · exact hb2
      have ha5 : (if G2.state ≠ 2 ∨ G2.l = [] then G2.prepares else G2).all = G2.all := by
        split
        · exact prepares_all G2
        · rfl
      generalize (if G2.state ≠ 2 ∨ G2.l = [] then G2.prepares else G2) = G5 at *
      rw [← ha5] at k2
      refine (forms32 h5 k2 hb5).mono ?_
      rintro _ y ⟨A', ps', o', h8, -⟩
      refine ⟨h8.is hle ?_, trivial⟩
      rw [forms_all]
      exact k2
theorem lit_up {id sz n : Nat} {cs : List HV} (hid : s id = none) (hl : cs.length = n * sz) (h0 : n ≠ 0) (ys zs : List HV) (hy : ∀ q cs, ys.map (frz2 q cs) = ys) (hz : ∀ q cs, zs.map (frz2 q cs) = zs) :
    UpL (ys ++ .view id 0 sz n true :: zs) (s.set id (.cells cs)) (ys ++ .list sz n cs false :: zs) s := by
  have hle := le_set_new (.cells cs) (le_refl' s) hid
  have ha : Acc0 s (s.set id (.cells cs)) sz (.view id 0 sz n true) n cs := .inl (.inr ⟨id, true, hid, rfl, set_at _ _ _, hl, h0⟩)
  exact acc0_upAtL ha hle ys zs hy hz
def allL (k : Int) : List Top := [⟨[98], ((k % 5).toNat : Nat)⟩, ⟨[97], 2⟩]
theorem allL_len (k : Int) : (allL k).length ≤ 1000 := by show 2 ≤ 1000; decide
theorem all20 (k : Int) (s : HS) : HC Tryz.prog 12 [.lit (.int .i64 k)] s (fun v t => t = s ∧ ∃ a c, v = .tup [a, c] ∧ ARow a (allL k) ∧ a = rowL topC 2 (allL k) ∧ c = rowL topC 2 (allL k)) := by
  refine HC.up (HC12 ?_)
  unfold c12
  refine (round9 (n := 5) (by omega) (by omega) s).mono ?_
  rintro v t ⟨rfl, rfl⟩
  rw [show vMk [(0, 1), (1, 1)] [.lit (.string .empty), .lit (.int .i64 0)] [(0, (.lit (.string { data := #[98] }))), (1, .lit (.int .i64 (((k % ((5 : Nat) : Int)).toNat : Nat) : Int)))] = some (.agg (topC ⟨[98], ((k % 5).toNat : Nat)⟩)) from rfl, show vMk [(0, 1), (1, 1)] [.lit (.string .empty), .lit (.int .i64 0)] [(0, (.lit (.string { data := #[97] }))), (1, (.lit (.int .i64 2)))] = some (.agg (topC ⟨[97], 2⟩)) from rfl]
  simp only [bindO]
  refine hBS_in (cs := rows topC (allL k)) rfl fun i1 h1 => ?_
  refine hBS_in (cs := rows topC (allL k)) rfl fun i2 h2 => ?_
  have hne : i1 ≠ i2 := fun e => by rw [e, set_at] at h2; cases h2
  generalize hcs : rows topC (allL k) = cs at *
  have hlen : cs.length = 4 := by rw [← hcs]; rfl
  have u1 := UpL.frzD (xs := [.tup [.view i1 0 2 2 true, .view i2 0 2 2 true]]) (set_at (t.set i1 (.cells cs)) i2 (.cells cs)) (le_set_new _ (le_refl' _) h2) h2
  have e1 : [HV.tup [.view i1 0 2 2 true, .view i2 0 2 2 true]].map (frz2 i2 cs) = [.tup [.view i1 0 2 2 true, .list 2 2 cs false]] := by
    simp [frz2, frz1, frz0, phi, hne, hlen]
    exact List.take_of_length_le (by omega)
  rw [e1] at u1
  have u2 := UpL.frzD (xs := [.tup [.view i1 0 2 2 true, .list 2 2 cs false]]) (set_at t i1 (.cells cs)) (le_set_new _ (le_refl' _) h1) h1
  have e2 : [HV.tup [.view i1 0 2 2 true, .list 2 2 cs false]].map (frz2 i1 cs) = [.tup [.list 2 2 cs false, .list 2 2 cs false]] := by
    simp [frz2, frz1, frz0, phi, hlen]
    exact List.take_of_length_le (by omega)
  rw [e2] at u2
  refine ⟨_, t, u1.trans u2, rfl, _, _, rfl, ⟨?_, List.cons_ne_nil _ _⟩, ?_, ?_⟩
  all_goals (unfold rowL; rw [hcs]; rfl)
end
end Go.Proofs.YtkcgokkgefgcjaaGreatDoor.AS
end
section
namespace Go.Proofs.YtkcgokkgefgcjaaGreatDoor.AS
open Go.Proofs.YtkcgokkgefgcjaaGreatDoor.H Go.Proofs.YtkcgokkgefgcjaaGreatDoor.G0 Go.Proofs.YtkcgokkgefgcjaaGreatDoor.G1
set_option linter.unusedVariables false
set_option linter.unusedSimpArgs false
set_option maxRecDepth 100000
structure Step where
  kind : Int
  member : By
  topics : Option (List By)
  gen : Int
  wait : Int
def stepC (x : Step) : List HV := [.lit (.int .i64 x.kind), strV x.member, rowV strC 1 x.topics, .lit (.int .i64 x.gen), .lit (.int .i64 x.wait)]
theorem stepC_len (x : Step) : (stepC x).length = 5 := rfl
def st0 : Step := ⟨0, [], none, 0, 0⟩
def natC (a : Nat) : List HV := [.lit (.int .i64 (a : Int))]
theorem natC_len (a : Nat) : (natC a).length = 1 := rfl
section
variable {b s : HS} {g : Nat} {G : GG} {K : Nat}
theorem sum40 {n : Int} {vs : List Nat} {q : Nat} {f : Bool} {s : HS} (hq : s q = some (.cells (rows natC vs))) (hl : vs.length ≤ 1000) (ha : ∀ a ∈ vs, a < 9223372036854775808) (hn : 0 ≤ n) (hn' : n ≤ 1099511627776) :
    HC Tryz.prog 11 [.lit (.int .i64 n), .view q 0 1 vs.length f] s (fun v t => t = s ∧ ∃ m : Int, v = .lit (.int .i64 m) ∧ n ≤ m ∧ m ≤ 1099511627776 ∧ (m < 1099511627776 → ∀ a ∈ vs, (a : Int) ≤ m)) := by
  refine HC11 ?_
  unfold c11
  refine HLoop.ghost (σ := Int × Nat) (fun x => [.lit (.int .i64 x.1), .lit (.int .i64 (x.2 : Int))]) (fun x t => x.2 ≤ vs.length ∧ t = s ∧ n ≤ x.1 ∧ x.1 ≤ 1099511627776 ∧ ∀ a ∈ vs.take x.2, (a : Int) ≤ x.1) (fun x => vs.length - x.2) (n, 0) rfl ⟨Nat.zero_le _, rfl, Int.le_refl _, hn', by simp⟩ ?_
  rintro ⟨m, i⟩ t K' ⟨h1, rfl, h2, h3, h4⟩ hK
  simp only at h1 h2 h3 h4
  simp only [List.headD_cons, List.tail_cons]
  rw [show vLenT (Tryz.prog.underlying 75) t (.view q 0 1 vs.length f) = some (.lit (.int .i64 ((vs.length : Nat) : Int))) from rfl]
  simp only [bindO, lss_i]
  by_cases hlt : i < vs.length
  · have hm := getD_memD 0 hlt
    have htk := take_succ' 0 vs hlt
    have hv := ha _ hm
    have x1 : vIdx 1 (.view q 0 1 vs.length f) (.lit (.int .i64 (i : Int))) = some (.ptr q i) := by
      have h1 : (i : Int) < (vs.length : Int) := by omega
      simp [vIdx, h1]
    have x2 : vLoad t (.ptr q i) 1 false = some (.lit (.int .i64 ((vs.getD i 0 : Nat) : Int))) := by
      have := load_rows1 natC_len 0 (rest := []) (by rw [List.append_nil]; exact hq) hlt (j := 0) (n := 1) (by omega)
      rw [Nat.mul_one, Nat.add_zero] at this
      rw [this]
      rfl
    generalize vs.getD i 0 = v at *
    simp only [hlt, decide_true, hcond]
    refine Join.of (fun xs u => u = t ∧ xs = [.lit (.bool (decide (1099511627776 < m + (v : Int))))]) ?_ ?_
    · rintro _ u ⟨rfl, rfl⟩
      simp only [List.headD_cons, x1, x2]
      by_cases hc : 1099511627776 < m + (v : Int)
      · simp only [hc, decide_true]
        exact ⟨trivial, 1099511627776, rfl, by omega, by omega, fun h => by omega⟩
      · simp only [hc, decide_false]
        rw [add_n (by omega) (by omega)]
        simp only [inc_i hlt (by omega)]
        refine hK (m + v, i + 1) _ _ rfl ⟨hlt, rfl, by show n ≤ m + v; omega, by show m + (v : Int) ≤ _; omega, fun a ha' => ?_⟩ (by show vs.length - (i + 1) < vs.length - i; omega)
        simp only at ha' ⊢
        rw [htk] at ha'
        rcases List.mem_append.1 ha' with ha' | ha'
        · have := h4 a ha'; omega
        · rw [List.mem_singleton.1 ha']; omega
    · intro K6 hK6
      simp only [gtr_n, x1, x2]
      by_cases hc : 1099511627776 < m
      · omega
      · simp only [hc, decide_false]
        rw [sub_n (by omega) (by omega)]
        simp only [gtr_n]
        exact hK6 _ _ ⟨rfl, by rw [show decide (1099511627776 - m < (v : Int)) = decide (1099511627776 < m + (v : Int)) from by rw [decide_eq_decide]; omega]⟩
  · obtain rfl : i = vs.length := by omega
    rw [List.take_length] at h4
    simp only [hlt, decide_false, hcond]
    exact ⟨trivial, m, rfl, h2, h3, fun _ => h4⟩
/-- What the law looks at. -/
structure SmallL (l : List Step) : Prop where
  nl : l.length ≤ 80
  tp : ∀ x ∈ l, (x.topics.getD []).length ≤ 1000
structure StIn (l : List Step) : Prop where
  nl : l.length ≤ 9223372036854775807
  mem : ∀ x ∈ l, x.member.length ≤ 9223372036854775807
  tp : ∀ x ∈ l, (x.topics.getD []).length ≤ 9223372036854775807 ∧ ∀ y ∈ x.topics.getD [], y.length ≤ 9223372036854775807
theorem lenS (x : By) (h : x.length ≤ 9223372036854775807) (u : HS) : vLenT (Tryz.prog.underlying 9) u (strV x) = some (.lit (.int .i64 ((x.length : Nat) : Int))) := by
  show some (HV.lit (.int .i64 ((ByteArray.mk x.toArray).size : Nat))) = _
  rw [show (ByteArray.mk x.toArray).size = x.length from by show x.toArray.size = _; simp]
theorem small19 (l : List Step) (hz : StIn l) (s : HS) : HC Tryz.prog 4 [rowL stepC 5 l] s (fun v t => t = s ∧ ∃ r : Bool, v = .lit (.bool r) ∧ (r = true → SmallL l)) := by
  refine HC.weaken (HC4 ?_)
  unfold c4
  have hA : ∀ u, vLenT (Tryz.prog.underlying 22) u (rowL stepC 5 l) = some (.lit (.int .i64 ((l.length : Nat) : Int))) := fun u => rfl
  have i1 := fun i (hi : i < l.length) => idx_rowL stepC_len st0 l .i64 hi
  have hnl := hz.nl
  refine HLoop.ghost (σ := Int × Nat) (fun x => [.lit (.int .i64 x.1), .lit (.int .i64 (x.2 : Int))]) (fun x t => x.2 ≤ l.length ∧ HS.le s t ∧ 0 ≤ x.1 ∧ x.1 ≤ 1099511627776 ∧ (x.1 ≤ 1000 → ∀ y ∈ l.take x.2, (y.topics.getD []).length ≤ 1000)) (fun x => l.length - x.2) (0, 0) rfl ⟨Nat.zero_le _, le_refl' s, by decide, by decide, by simp⟩ ?_
  rintro ⟨n, i⟩ t K' ⟨h1, h2, h3, h4, h5⟩ hK
  simp only at h1 h2 h3 h4 h5
  simp only [List.headD_cons, List.tail_cons]
  refine Join.of (fun xs u => u = t ∧ xs = [.lit (.bool (decide (i < l.length) && decide (n ≤ 1000)))]) ?_ ?_
  rotate_left
  · intro K4 hK4
    simp only [hA, bindO, lss_i]
    by_cases hlt : i < l.length
    · simp only [hlt, decide_true, hcond, leq_n]
      exact hK4 _ _ ⟨rfl, by simp [hlt]⟩
    · simp only [hlt, decide_false, hcond]
      exact hK4 _ _ ⟨rfl, by simp [hlt]⟩
  rintro _ u ⟨rfl, rfl⟩
  simp only [List.headD_cons]
  by_cases hlt : i < l.length ∧ n ≤ 1000
  · have hm := getD_memD st0 hlt.1
    have htk := take_succ' st0 l hlt.1
    have z1 := hz.mem _ hm
    obtain ⟨z2, z3⟩ := hz.tp _ hm
    simp only [hlt, decide_true, Bool.and_self, hcond, bindO, i1 i hlt.1]
    generalize l.getD i st0 = x at *
    have l1 : ∀ w, vLoad w (.elt (stepC x) (0 + 1)) 1 false = some (strV x.member) := fun w => rfl
    have l2 : ∀ w, vLoad w (.elt (stepC x) (0 + 2)) 1 false = some (rowV strC 1 x.topics) := fun w => rfl
    have lt : ∀ w, vLenT (Tryz.prog.underlying 33) w (rowV strC 1 x.topics) = some (.lit (.int .i64 (((x.topics.getD []).length : Nat) : Int))) := fun w => len_rowV x.topics w
    simp only [vField, l1, l2, lt, lenS _ z1]
    refine hBS_in (cs := rows natC [x.member.length, (x.topics.getD []).length, 1]) rfl fun id hid => ?_
    have hle := le_set_new (.cells (rows natC [x.member.length, (x.topics.getD []).length, 1])) h2 hid
    refine (sum40 (vs := [x.member.length, (x.topics.getD []).length, 1]) (set_at _ _ _) (by simp) (fun a ha => by
      simp only [List.mem_cons, List.not_mem_nil, or_false] at ha
      rcases ha with rfl | rfl | rfl <;> omega) h3 h4).mono ?_
    rintro v w ⟨rfl, m, rfl, g1, g2, g3⟩
    generalize u.set id (.cells (rows natC [x.member.length, (x.topics.getD []).length, 1])) = u1 at *
    have htl : m ≤ 1000 → (x.topics.getD []).length ≤ 1000 := fun hm' => by
      have := g3 (by omega) (x.topics.getD []).length (by simp)
      omega
    refine HLoop.ghost (σ := Int × Nat) (fun y => [.lit (.int .i64 y.1), .lit (.int .i64 (y.2 : Int))]) (fun y t => y.2 ≤ (x.topics.getD []).length ∧ HS.le s t ∧ m ≤ y.1 ∧ y.1 ≤ 1099511627776) (fun y => (x.topics.getD []).length - y.2) (m, 0) rfl ⟨Nat.zero_le _, hle, Int.le_refl _, g2⟩ ?_
    rintro ⟨p, k⟩ u2 K2 ⟨k1, k2, k3, k4⟩ hK2
    simp only at k1 k2 k3 k4
    simp only [List.headD_cons, List.tail_cons]
    refine Join.of (fun xs v => v = u2 ∧ xs = [.lit (.bool (decide (k < (x.topics.getD []).length) && decide (p ≤ 1000)))]) ?_ ?_
    rotate_left
    · intro K25 hK25
      simp only [i1 i hlt.1, vField, l2, lt, lss_i]
      by_cases hk : k < (x.topics.getD []).length
      · simp only [hk, decide_true, leq_n]
        exact hK25 _ _ ⟨rfl, by simp [hk]⟩
      · simp only [hk, decide_false]
        exact hK25 _ _ ⟨rfl, by simp [hk]⟩
    rintro _ u3 ⟨rfl, rfl⟩
    simp only [List.headD_cons]
    by_cases hk : k < (x.topics.getD []).length ∧ p ≤ 1000
    · have hy := z3 _ (getD_memD ([] : By) hk.1)
      have i2 := idx_rowV strC_len ([] : By) x.topics hk.1
      simp only [hk, decide_true, Bool.and_self, i1 i hlt.1, vField, l2, i2]
      generalize (x.topics.getD []).getD k [] = y at *
      have l3 : ∀ w, vLoad w (.elt (strC y) 0) 1 false = some (strV y) := fun w => rfl
      simp only [l3, lenS _ hy]
      refine hBS_in (cs := rows natC [y.length]) rfl fun id2 hid2 => ?_
      have hle2 := le_set_new (.cells (rows natC [y.length])) k2 hid2
      refine (sum40 (vs := [y.length]) (set_at _ _ _) (by simp) (fun a ha => by
        rw [List.mem_singleton.1 ha]; omega) (by omega) k4).mono ?_
      rintro v w ⟨rfl, m2, rfl, e1, e2, e3⟩
      simp only [inc_i hk.1 (by omega)]
      exact hK2 (m2, k + 1) _ _ rfl ⟨hk.1, hle2, by show m ≤ m2; omega, e2⟩ (by show (x.topics.getD []).length - (k + 1) < (x.topics.getD []).length - k; omega)
    · rw [show (decide (k < (x.topics.getD []).length) && decide (p ≤ 1000)) = false from by
        rw [Bool.and_eq_false_iff, decide_eq_false_iff_not, decide_eq_false_iff_not]
        by_cases h : k < (x.topics.getD []).length
        · exact .inr fun h' => hk ⟨h, h'⟩
        · exact .inl h]
      simp only [inc_i hlt.1 (by omega)]
      refine hK (p, i + 1) _ _ rfl ⟨hlt.1, k2, by show 0 ≤ p; omega, k4, fun hp y hy => ?_⟩ (by show l.length - (i + 1) < l.length - i; omega)
      simp only at hp hy
      rw [htk] at hy
      rcases List.mem_append.1 hy with hy | hy
      · exact h5 hlt.2 y hy
      · rw [List.mem_singleton.1 hy]
        exact htl (by omega)
  · rw [show (decide (i < l.length) && decide (n ≤ 1000)) = false from by
      rw [Bool.and_eq_false_iff, decide_eq_false_iff_not, decide_eq_false_iff_not]
      by_cases h : i < l.length
      · exact .inr fun h' => hlt ⟨h, h'⟩
      · exact .inl h]
    simp only [leq_n, hcond, bindO]
    by_cases hn : n ≤ 1000
    · simp only [hn, decide_true, hA, show vBin .leq (.lit (.int .i64 ((l.length : Nat) : Int))) (.lit (.int .i64 80)) = some (.lit (.bool (decide (l.length ≤ 80)))) from leq_i l.length 80]
      refine ⟨s, h2, rfl, _, rfl, fun hr => ⟨of_decide_eq_true hr, ?_⟩⟩
      have hi : i = l.length := by
        by_cases h : i < l.length
        · exact absurd ⟨h, hn⟩ hlt
        · omega
      subst hi
      rw [List.take_length] at h5
      exact h5 hn
    · simp only [hn, decide_false]
      exact ⟨s, h2, rfl, false, rfl, fun h => by cases h⟩
theorem Bd.tick {al : List Top} {now : Int} (h : Bd K G) (hk : K + 1 ≤ 1000000) (hal : al.length ≤ 1000) (hn : now ≤ 1125899906842624) : Bd (K + 1) (G.tick al now) := (h.setAll hal).goes hk hn
theorem Bd.join2 {id : By} (h : Bd K G) (hk : K + 1 ≤ 1000000) : Bd (K + 1) (G.join2 id) := by
  unfold GG.join2
  split
  · refine ⟨h.now, h.since, fun m hm => ?_, ?_, ?_, h.all, h.sh, by omega⟩
    · rcases List.mem_append.1 (show m ∈ G.l ++ [_] from hm) with hm | hm
      · exact h.mem m hm
      · rw [List.mem_singleton.1 hm]; exact ⟨Int.le_refl 0, by show (0 : Int) ≤ _; omega, by simp⟩
    · have := h.gen; exact ⟨this.1, by show G.gen ≤ _; omega⟩
    · show (G.l ++ [_]).length ≤ _
      have := h.len
      simp; omega
  · exact h.mono (by omega) (by omega)
theorem Bd.join3 {i : Nat} {f : Bool} {tp : List By} (h : Bd K G) (hk : K + 1 ≤ 1000000) (ht : tp.length ≤ 1000000) : Bd (K + 1) (G.join3 i f tp) := by
  have h3 := h.updAt (i := i) (fun m => { m with heard := G.now }) (fun m hm => ⟨h.now.1, h.now.2, hm.2.2⟩)
  have h4 := h3.updAt (i := i) (fun m => { m with tp := tp }) (fun m hm => ⟨hm.1, hm.2.1, ht⟩)
  unfold GG.join3
  simp only
  split
  · refine Bd.forms ?_ hk
    refine Bd.updAt ?_ _ (fun m hm => hm)
    split
    · exact h4
    · exact h4.prepares
  · exact h3.mono (by omega) (by omega)
theorem Bd.join1 {id : By} {tp : List By} (h : Bd K G) (hk : K + 2 ≤ 1000000) (ht : tp.length ≤ 1000000) : Bd (K + 2) (G.join1 id tp).1 := by
  unfold GG.join1
  repeat' split
  · exact h.mono (by omega) (by omega)
  · exact h.mono (by omega) (by omega)
  · exact h.mono (by omega) (by omega)
  · exact (h.join2 (by omega)).join3 (by omega) ht
theorem Bd.join {id : By} {tp : List By} {al : List Top} {now : Int} (h : Bd K G) (hk : K + 3 ≤ 1000000) (ht : tp.length ≤ 1000000) (hal : al.length ≤ 1000) (hn : now ≤ 1125899906842624) : Bd (K + 3) (G.join id tp al now).1 :=
  (h.tick (by omega) hal hn).join1 (K := K + 1) (by omega) ht
theorem Bd.sync {id : By} {gen now : Int} (h : Bd K G) (hk : K + 1 ≤ 1000000) (hn : now ≤ 1125899906842624) : Bd (K + 1) (G.sync id gen now).1 := by
  have h1 := h.heard (id := id) (gen := gen) hk hn
  unfold GG.sync
  split
  · have h2 := h1.upd id (fun m => { m with synced := true }) (fun m hm => h1.mem m hm)
    simp only
    split
    · exact h2.enter 4
    · exact h2
  · exact h1
theorem Bd.leave {id : By} {al : List Top} {now : Int} (h : Bd K G) (hk : K + 2 ≤ 1000000) (hal : al.length ≤ 1000) (hn : now ≤ 1125899906842624) : Bd (K + 2) (G.leave id al now).1 := by
  have h1 := h.tick (by omega) hal hn
  unfold GG.leave
  simp only
  split
  · exact h1.mono (by omega) (by omega)
  · refine Bd.forms ?_ (by omega)
    have h2 := h1.outs (fun m => decide (m.id = id))
    split
    · exact h2.prepares
    · exact h2
theorem Bd.new {session rebalance gen : Int} {round : Bool} (hg : 0 ≤ gen ∧ gen ≤ 1099511627776) : Bd 0 (GG.new session rebalance gen round) :=
  ⟨⟨Int.le_refl 0, by show (0 : Int) ≤ _; omega⟩, ⟨Int.le_refl 0, by show (0 : Int) ≤ _; omega⟩, (by rintro m ⟨⟩), ⟨hg.1, by show gen ≤ _; omega⟩, Nat.zero_le _, by show 0 ≤ 1000; omega, ⟨by show 0 ≤ 1000000; omega, (by rintro d ⟨⟩)⟩, by omega⟩
end
end Go.Proofs.YtkcgokkgefgcjaaGreatDoor.AS
end
section
namespace Go.Proofs.YtkcgokkgefgcjaaGreatDoor.AS
open Go.Proofs.YtkcgokkgefgcjaaGreatDoor.H Go.Proofs.YtkcgokkgefgcjaaGreatDoor.G0 Go.Proofs.YtkcgokkgefgcjaaGreatDoor.G1
set_option linter.unusedVariables false
set_option linter.unusedSimpArgs false
set_option maxRecDepth 100000
theorem ofD_at {D : DD} {i : Nat} (hi : i < D.length) (hn : (D.map Prod.fst).Nodup) : ofD D (D.getD i d0).1 = (D.getD i d0).2 := by
  have : D.find? (fun d => d.1 == (D.getD i d0).1) = some (D.getD i d0) := by
    refine find_none_take d0 hi (fun x hx => ?_) (by simp)
    obtain ⟨j, hj, rfl⟩ := List.mem_iff_getElem.1 hx
    rw [List.length_take] at hj
    rw [List.getElem_take]
    rw [getD_get d0 D hi]
    rw [beq_eq_false_iff_ne]
    intro e
    have hnd := hn
    unfold List.Nodup at hnd
    rw [List.pairwise_map, List.pairwise_iff_getElem] at hnd
    exact hnd j i (by omega) hi (by omega) e
  unfold ofD
  rw [this]
theorem len_part : ∀ (n : Nat) (l : List (Nat × Slot)), (∀ p ∈ l, p.1 < n) → ((List.range n).map fun i => (shOf l i).length).sum = l.length
  | n, [], h => by
    have : ((List.range n).map fun i => (shOf [] i).length) = (List.range n).map fun _ => 0 := by simp [shOf]
    rw [this]
    induction n with
    | zero => rfl
    | succ n ih => rw [List.range_succ, List.map_append, List.sum_append, ih (by simp) (by simp [shOf])]; rfl
  | n, p :: l, h => by
    have ih := len_part n l (fun q hq => h q (List.mem_cons_of_mem _ hq))
    have hp := h p List.mem_cons_self
    have e : ∀ i, (shOf (p :: l) i).length = (shOf l i).length + if p.1 = i then 1 else 0 := fun i => by
      unfold shOf
      rw [List.filter_cons]
      by_cases hpi : p.1 = i <;> simp [hpi]
    have s1 : ∀ (k : Nat), ((List.range k).map fun i => (shOf (p :: l) i).length).sum = ((List.range k).map fun i => (shOf l i).length).sum + if p.1 < k then 1 else 0 := by
      intro k
      induction k with
      | zero => simp
      | succ k ihk =>
        rw [List.range_succ, List.map_append, List.map_append, List.sum_append, List.sum_append, ihk]
        simp only [List.map_cons, List.map_nil, List.sum_cons, List.sum_nil, e k]
        by_cases h1 : p.1 < k
        · rw [if_pos h1, if_neg (by omega), if_pos (by omega)]; omega
        · by_cases h2 : p.1 = k
          · rw [if_neg h1, if_pos h2, if_pos (by omega)]; omega
          · rw [if_neg h1, if_neg h2, if_neg (by omega)]; omega
    rw [s1, ih, if_pos hp]
    rfl
theorem isM_ids {l : List Mem} (h : (l.map Mem.id).Nodup) : ((isM l).map Mem.id).Nodup := ((isort_perm Mem.id l).map Mem.id).nodup_iff.2 h
theorem shD_ids (rg : List Mem → List Top → List (Nat × Slot)) (l : List Mem) (tl : List Top) : (shD rg l tl).map Prod.fst = (isM l).map Mem.id := by
  refine List.ext_getElem (by rw [List.length_map, List.length_map, shD_len, isort_len]) fun i h1 h2 => ?_
  rw [List.length_map] at h1 h2
  rw [List.getElem_map, List.getElem_map]
  have := shD_get (rg := rg) (l := l) (tl := tl) (i := i) (by rw [shD_len] at h1; exact h1)
  rw [getD_get _ _ h1, getD_get _ _ h2] at this
  rw [this]
theorem ofD_shD {rg : List Mem → List Top → List (Nat × Slot)} {l : List Mem} {tl : List Top} (hn : (l.map Mem.id).Nodup) {i : Nat} (hi : i < l.length) : ofD (shD rg l tl) ((isM l).getD i m0).id = shOf (rg (isM l) (isT tl)) i := by
  have h1 := shD_get (rg := rg) (l := l) (tl := tl) hi
  have h2 := ofD_at (D := shD rg l tl) (i := i) (by rw [shD_len]; exact hi) (by rw [shD_ids]; exact isM_ids hn)
  rw [h1] at h2
  exact h2
def partsOf (w : By → Bool) (tl : List Top) : Nat := (tl.map fun t => if w t.name then t.parts.toNat else 0).sum
theorem slots_lenW (w : By → Bool) : ∀ tl : List Top, ((slotsOf tl).filter fun x => w x.1).length = partsOf w tl
  | [] => rfl
  | t :: tl => by
    unfold partsOf slotsOf
    rw [List.flatMap_cons, List.filter_append, List.length_append, List.map_cons, List.sum_cons]
    have := slots_lenW w tl
    unfold partsOf slotsOf at this
    rw [this]
    congr 1
    cases hw : w t.name with
    | true => rw [List.filter_eq_self.2 (fun x hx => by obtain ⟨j, -, rfl⟩ := List.mem_map.1 hx; exact hw)]; simp
    | false => rw [List.filter_eq_nil_iff.2 (fun x hx => by obtain ⟨j, -, rfl⟩ := List.mem_map.1 hx; rw [hw]; simp)]; simp
theorem sum_perm {a c : List Nat} (h : a.Perm c) : a.sum = c.sum := h.sum_nat
theorem ofD_sum {rg : List Mem → List Top → List (Nat × Slot)} {l : List Mem} {tl : List Top} (hn : (l.map Mem.id).Nodup) (hg : Good (isM l) (isT tl) (rg (isM l) (isT tl))) :
    (l.map fun m => (ofD (shD rg l tl) m.id).length).sum = partsOf (wantL l) tl := by
  have p1 := isort_perm Mem.id l
  rw [← sum_perm (p1.map fun m => (ofD (shD rg l tl) m.id).length)]
  have e1 : ((isM l).map fun m => (ofD (shD rg l tl) m.id).length) = (List.range l.length).map fun i => (shOf (rg (isM l) (isT tl)) i).length := by
    refine List.ext_getElem (by simp [isort_len]) fun i h1 h2 => ?_
    rw [List.length_map] at h1
    have hi : i < l.length := by rw [isort_len] at h1; exact h1
    rw [List.getElem_map, List.getElem_map, List.getElem_range, ← ofD_shD hn hi, getD_get m0 _ h1]
  show ((isM l).map fun m => (ofD (shD rg l tl) m.id).length).sum = _
  rw [e1, len_part _ _ (fun p hp => by have := (hg.who p hp).1; rw [isort_len] at this; exact this)]
  have e2 := congrArg List.length hg.slots
  rw [List.length_map] at e2
  rw [e2, slots_lenW]
  have e3 : ∀ nm, wanted (isM l) nm = wantL l nm := fun nm => by rw [wanted_eq, wantL_perm p1]
  unfold partsOf
  rw [sum_perm ((isort_perm Top.name tl).map _)]
  congr 2
  funext t
  rw [e3]
theorem resD_sum {rd : Bool} {l : List (By × List By)} {al : List Top} (hok : okA (l.map fun p => (⟨p.1, some p.2⟩ : Mem)) al) :
    (l.map fun p => (ofD (sharesOf rd l al) p.1).length).sum = partsOf (fun nm => l.any fun p => decide (nm ∈ p.2)) al := by
  obtain ⟨rg, hrg, hg⟩ : ∃ rg : List Mem → List Top → List (Nat × Slot), sharesOf rd l al = shD rg (l.map fun p => (⟨p.1, some p.2⟩ : Mem)) al ∧ Good (isM (l.map fun p => (⟨p.1, some p.2⟩ : Mem))) (isT al) (rg (isM (l.map fun p => (⟨p.1, some p.2⟩ : Mem))) (isT al)) := by
    unfold sharesOf resD
    cases rd with
    | true => exact ⟨roundA, by rw [if_pos hok]; simp, good_round _ _⟩
    | false => exact ⟨rangeA, by rw [if_pos hok]; simp, good_range _ _⟩
  have := ofD_sum hok.2.1 hg
  rw [← hrg, List.map_map] at this
  have e : wantL (l.map fun p => (⟨p.1, some p.2⟩ : Mem)) = fun nm => l.any fun p => decide (nm ∈ p.2) := by
    funext nm
    unfold wantL
    rw [List.any_map]
    rfl
  rw [e] at this
  exact this
end Go.Proofs.YtkcgokkgefgcjaaGreatDoor.AS
end
section
namespace Go.Proofs.YtkcgokkgefgcjaaGreatDoor.AS
open Go.Proofs.YtkcgokkgefgcjaaGreatDoor.H Go.Proofs.YtkcgokkgefgcjaaGreatDoor.G0 Go.Proofs.YtkcgokkgefgcjaaGreatDoor.G1
set_option linter.unusedVariables false
set_option linter.unusedSimpArgs false
set_option maxRecDepth 100000
/-- What a group may become, nobody being new. -/
structure Mv (G G' : GG) : Prop where
  se : G'.session = G.session
  rb : G'.rebalance = G.rebalance
  rd : G'.round = G.round
  gv : G'.given = G.given
  ids : (ids G').Sublist (ids G)
  gen : G.gen ≤ G'.gen
  sh : G'.gen = G.gen → G'.shares = G.shares
theorem Mv.refl (G : GG) : Mv G G := ⟨rfl, rfl, rfl, rfl, List.Sublist.refl _, Int.le_refl _, fun _ => rfl⟩
theorem Mv.trans {G1 G2 G3 : GG} (h : Mv G1 G2) (k : Mv G2 G3) : Mv G1 G3 :=
  ⟨k.se.trans h.se, k.rb.trans h.rb, k.rd.trans h.rd, k.gv.trans h.gv, k.ids.trans h.ids, Int.le_trans h.gen k.gen, fun e => by
    have h1 := h.gen
    have h2 := k.gen
    rw [k.sh (by omega), h.sh (by omega)]⟩
theorem Mv.ite {c : Prop} [Decidable c] {G G1 G2 : GG} (h1 : Mv G G1) (h2 : Mv G G2) : Mv G (if c then G1 else G2) := by
  split
  · exact h1
  · exact h2
section
variable {G : GG}
theorem mv_enter (G : GG) (st : Int) : Mv G (G.enter st) := ⟨rfl, rfl, rfl, rfl, List.Sublist.refl _, Int.le_refl _, fun _ => rfl⟩
theorem mv_outs (G : GG) (p : GM → Bool) : Mv G (G.outs p) := ⟨rfl, rfl, rfl, rfl, (List.filter_sublist).map _, Int.le_refl _, fun _ => rfl⟩
theorem mv_prepares (G : GG) : Mv G G.prepares := by
  unfold GG.prepares
  split
  · exact mv_enter G 1
  · refine ⟨rfl, rfl, rfl, rfl, ?_, Int.le_refl _, fun _ => rfl⟩
    show ((G.l.map _).map GM.id).Sublist (G.l.map GM.id)
    rw [List.map_map]
    exact List.Sublist.refl _
theorem gen_prepares (G : GG) : G.prepares.gen = G.gen := by unfold GG.prepares; split <;> rfl
theorem mv_forms1 (G : GG) : Mv G G.forms1 := by
  unfold GG.forms1
  simp only
  split
  · exact (mv_outs G _).trans (mv_enter _ 1)
  · refine (mv_outs G fun m => !m.joined).trans ⟨rfl, rfl, rfl, rfl, ?_, ?_, fun e => ?_⟩
    · show ((List.map _ _).map GM.id).Sublist _
      rw [List.map_map]
      exact List.Sublist.refl _
    · show _ ≤ _ + (1 : Int); omega
    · exfalso
      have : (G.outs fun m => !m.joined).gen + 1 = (G.outs fun m => !m.joined).gen := e
      omega
theorem mv_forms (G : GG) : Mv G G.forms := Mv.ite (mv_forms1 G) (Mv.refl G)
theorem gen_forms (G : GG) : G.forms.gen ≤ G.gen + 1 := by
  unfold GG.forms GG.forms1
  simp only
  repeat' split
  · show G.gen ≤ _; omega
  · show G.gen + 1 ≤ _; omega
  · omega
theorem mv_now (G : GG) (n : Int) : Mv G { G with now := n } := ⟨rfl, rfl, rfl, rfl, List.Sublist.refl _, Int.le_refl _, fun _ => rfl⟩
theorem mv_all (G : GG) (al : List Top) : Mv G { G with all := al } := ⟨rfl, rfl, rfl, rfl, List.Sublist.refl _, Int.le_refl _, fun _ => rfl⟩
theorem mv_goes1 (G : GG) : Mv G G.goes1 := by
  unfold GG.goes1
  simp only
  refine Mv.trans ?_ (mv_forms _)
  refine Mv.ite (Mv.trans ?_ (mv_enter _ 1)) ?_ <;> exact Mv.ite ((mv_outs G _).trans (mv_prepares _)) (mv_outs G _)
theorem mv_goes2 (G : GG) : Mv G G.goes2 := Mv.ite ((mv_outs G _).trans (mv_prepares _)) (Mv.refl G)
theorem mv_goes (G : GG) (n : Int) : Mv G (G.goes n) := ((mv_now G _).trans (mv_goes1 _)).trans (mv_goes2 _)
theorem mv_tick (G : GG) (al : List Top) (n : Int) : Mv G (G.tick al n) := (mv_all G al).trans (mv_goes _ n)
theorem gen_goes (G : GG) (n : Int) : (G.goes n).gen ≤ G.gen + 1 := by
  have h1 : ∀ G : GG, G.goes1.gen ≤ G.gen + 1 := fun G => by
    unfold GG.goes1
    simp only
    refine Int.le_trans (gen_forms _) ?_
    have e : ∀ (c : Prop) [Decidable c] (A B : GG), A.gen = G.gen → B.gen = G.gen → (if c then A else B).gen = G.gen := fun c _ A B ha hb => by
      split
      · exact ha
      · exact hb
    rw [e]
    · omega
    · show (if _ then _ else _ : GG).gen = _
      exact e _ _ _ (by rw [gen_prepares]; rfl) rfl
    · exact e _ _ _ (by rw [gen_prepares]; rfl) rfl
  unfold GG.goes GG.goes2
  split
  · rw [gen_prepares]; exact h1 { G with now := max G.now n }
  · exact h1 { G with now := max G.now n }
theorem gen_tick (G : GG) (al : List Top) (n : Int) : (G.tick al n).gen ≤ G.gen + 1 := gen_goes _ n
theorem mv_upd (G : GG) (id : By) (f : GM → GM) (hf : ∀ m, (f m).id = m.id) : Mv G (G.upd id f) := by
  refine ⟨?_, ?_, ?_, ?_, ?_, ?_, ?_⟩
  case refine_5 => unfold AS.ids; rw [upd_ids G id f hf]; exact List.Sublist.refl _
  all_goals (unfold GG.upd; split)
  all_goals first | rfl | exact Int.le_refl _ | (intro _; rfl)
theorem gen_upd (G : GG) (id : By) (f : GM → GM) : (G.upd id f).gen = G.gen := by unfold GG.upd; split <;> rfl
theorem mv_heard (G : GG) (id : By) (gen n : Int) : Mv G (G.heard id gen n).1 := by
  unfold GG.heard
  simp only
  split
  · exact (mv_goes G n).trans (mv_upd (G.goes n) id (fun m => { m with heard := (G.goes n).now }) fun m => rfl)
  · exact mv_goes G n
theorem gen_heard (G : GG) (id : By) (gen n : Int) : (G.heard id gen n).1.gen ≤ G.gen + 1 := by
  unfold GG.heard
  simp only
  split
  · rw [gen_upd]; exact gen_goes G n
  · exact gen_goes G n
theorem mv_sync (G : GG) (id : By) (gen n : Int) : Mv G (G.sync id gen n).1 := by
  unfold GG.sync
  split
  · simp only
    refine Mv.trans ((mv_heard G id gen n).trans (mv_upd _ id (fun m => { m with synced := true }) fun m => rfl)) ?_
    exact Mv.ite (mv_enter _ 4) (Mv.refl _)
  · exact mv_heard G id gen n
theorem gen_sync (G : GG) (id : By) (gen n : Int) : (G.sync id gen n).1.gen ≤ G.gen + 1 := by
  unfold GG.sync
  split
  · simp only
    have h := gen_heard G id gen n
    split
    · show (GG.upd _ _ _).gen ≤ _; rw [gen_upd]; exact h
    · rw [gen_upd]; exact h
  · exact gen_heard G id gen n
theorem mv_leave (G : GG) (id : By) (al : List Top) (n : Int) : Mv G (G.leave id al n).1 := by
  unfold GG.leave
  simp only
  split
  · exact mv_tick G al n
  · exact (mv_tick G al n).trans (((mv_outs _ _).trans (Mv.ite (mv_prepares _) (Mv.refl _))).trans (mv_forms _))
theorem gen_leave (G : GG) (id : By) (al : List Top) (n : Int) : (G.leave id al n).1.gen ≤ G.gen + 2 := by
  have h := gen_tick G al n
  unfold GG.leave
  simp only
  split
  · show (G.tick al n).gen ≤ _; omega
  · refine Int.le_trans (gen_forms _) ?_
    split
    · rw [gen_prepares]; show (G.tick al n).gen + 1 ≤ _; omega
    · show (G.tick al n).gen + 1 ≤ _; omega
structure Nm (G : GG) : Prop where
  nd : (ids G).Nodup
  nm : ∀ x ∈ ids G, ∃ j : Nat, (j : Int) ≤ G.given ∧ x = 109 :: decL j
  gv : 0 ≤ G.given
theorem Nm.mv {G' : GG} (h : Nm G) (k : Mv G G') : Nm G' := ⟨h.nd.sublist k.ids, fun x hx => by rw [k.gv]; exact h.nm x (k.ids.subset hx), by rw [k.gv]; exact h.gv⟩
theorem Nm.ne {x : By} (h : Nm G) (hx : x ∈ ids G) : x ≠ [] := by
  obtain ⟨j, -, rfl⟩ := h.nm x hx
  exact List.cons_ne_nil _ _
theorem updAt_ids (G : GG) (i : Nat) (f : GM → GM) (hf : ∀ m, (f m).id = m.id) (hi : i < G.l.length) : ids (G.updAt i f) = ids G := by
  unfold ids GG.updAt
  simp only
  rw [List.map_set, hf, getD_get _ _ hi]
  have : G.l[i].id = (G.l.map GM.id)[i]'(by simpa using hi) := by simp
  rw [this, List.set_getElem_self]
theorem updAt_len (G : GG) (i : Nat) (f : GM → GM) : (G.updAt i f).l.length = G.l.length := by unfold GG.updAt; simp
theorem mv_updAt (G : GG) (i : Nat) (f : GM → GM) (hf : ∀ m, (f m).id = m.id) (hi : i < G.l.length) : Mv G (G.updAt i f) :=
  ⟨rfl, rfl, rfl, rfl, by rw [updAt_ids G i f hf hi]; exact List.Sublist.refl _, Int.le_refl _, fun _ => rfl⟩
theorem prepares_len (G : GG) : G.prepares.l.length = G.l.length := by
  have := congrArg List.length (prepares_ids G)
  rw [List.length_map, List.length_map] at this
  exact this
theorem mv_join3 (G : GG) {i : Nat} (f : Bool) (tp : List By) (hi : i < G.l.length) : Mv G (G.join3 i f tp) := by
  have h3 : Mv G (G.updAt i fun m => { m with heard := G.now }) := mv_updAt G i _ (fun m => rfl) hi
  unfold GG.join3
  simp only
  split
  · refine Mv.trans ?_ (mv_forms _)
    have l4 : i < ((G.updAt i fun m => { m with heard := G.now }).updAt i fun m => { m with tp := tp }).l.length := by rw [updAt_len, updAt_len]; exact hi
    have h4 := h3.trans (mv_updAt _ i (fun m => { m with tp := tp }) (fun m => rfl) (by rw [updAt_len]; exact hi))
    generalize ((G.updAt i fun m => { m with heard := G.now }).updAt i fun m => { m with tp := tp }) = G4 at *
    split
    · exact h4.trans (mv_updAt _ i _ (fun m => rfl) l4)
    · exact (h4.trans (mv_prepares G4)).trans (mv_updAt _ i _ (fun m => rfl) (by rw [prepares_len]; exact l4))
  · exact h3
theorem gen_join3 (G : GG) (i : Nat) (f : Bool) (tp : List By) : (G.join3 i f tp).gen ≤ G.gen + 1 := by
  unfold GG.join3
  simp only
  split
  · refine Int.le_trans (gen_forms _) ?_
    show (if _ then _ else _ : GG).gen + 1 ≤ _
    split
    · show G.gen + 1 ≤ _; omega
    · rw [gen_prepares]; show G.gen + 1 ≤ _; omega
  · show G.gen ≤ _; omega
theorem joinI_lt (G : GG) (id : By) (h : ¬ (id ≠ [] ∧ G.at_ id = none)) : G.joinI id < (G.join2 id).l.length := by
  unfold GG.joinI GG.join2
  by_cases hid : id = []
  · rw [if_pos hid, if_pos hid]
    show G.l.length < (G.l ++ [_]).length
    simp
  · rw [if_neg hid, if_neg hid]
    cases hi : G.at_ id with
    | none => exact absurd ⟨hid, hi⟩ h
    | some i => exact (List.findIdx?_eq_some_iff_getElem.1 hi).1
theorem join2_gen (G : GG) (id : By) : (G.join2 id).gen = G.gen ∧ (G.join2 id).shares = G.shares ∧ (G.join2 id).session = G.session ∧ (G.join2 id).rebalance = G.rebalance ∧ (G.join2 id).round = G.round ∧ (G.join2 id).state = G.state ∧ (G.join2 id).now = G.now ∧ (G.join2 id).since = G.since := by
  unfold GG.join2
  split <;> exact ⟨rfl, rfl, rfl, rfl, rfl, rfl, rfl, rfl⟩
theorem join2_nm (h : Nm G) (id : By) : Nm (G.join2 id) := by
  unfold GG.join2
  split
  · rename_i hid
    have hg := h.gv
    have enm : G.nm id = 109 :: decL (G.given + 1).toNat := by unfold GG.nm; rw [if_pos hid]
    refine ⟨?_, fun x hx => ?_, by show 0 ≤ G.given + 1; omega⟩
    · show ((G.l ++ [_]).map GM.id).Nodup
      rw [List.map_append, List.nodup_append]
      refine ⟨h.nd, by simp, fun x hx y hy => ?_⟩
      simp only [List.map_cons, List.map_nil, List.mem_singleton] at hy
      subst hy
      obtain ⟨j, hj, rfl⟩ := h.nm x hx
      rw [enm]
      intro e
      have := decL_inj (List.cons.inj e).2
      omega
    · have hx' : x ∈ (G.l ++ [(⟨G.nm id, [], 0, false, false⟩ : GM)]).map GM.id := hx
      rw [List.map_append] at hx'
      rcases List.mem_append.1 hx' with hx' | hx'
      · obtain ⟨j, hj, rfl⟩ := h.nm x hx'
        exact ⟨j, by show (j : Int) ≤ G.given + 1; omega, rfl⟩
      · simp only [List.map_cons, List.map_nil, List.mem_singleton] at hx'
        rw [hx', enm]
        exact ⟨_, by show (((G.given + 1).toNat : Nat) : Int) ≤ G.given + 1; omega, rfl⟩
  · exact h
/-- What Join may bring. -/
structure Mj (G G' : GG) : Prop where
  se : G'.session = G.session
  rb : G'.rebalance = G.rebalance
  rd : G'.round = G.round
  gv : G.given ≤ G'.given ∧ G'.given ≤ G.given + 1
  gen : G.gen ≤ G'.gen ∧ G'.gen ≤ G.gen + 2
  sh : G'.gen = G.gen → G'.shares = G.shares
  nm : Nm G → Nm G'
theorem mj_join1 (G : GG) (id : By) (tp : List By) : Mj G (G.join1 id tp).1 ∧ (G.join1 id tp).1.gen ≤ G.gen + 1 := by
  have hr : Mj G G ∧ G.gen ≤ G.gen + 1 := ⟨⟨rfl, rfl, rfl, ⟨Int.le_refl _, by omega⟩, ⟨Int.le_refl _, by omega⟩, fun _ => rfl, id_⟩, by omega⟩
  unfold GG.join1
  repeat' split
  · exact hr
  · exact hr
  · exact hr
  · rename_i h1 h2 h3
    have hm := mv_join3 (G.join2 id) (decide (id = [])) tp (joinI_lt G id h3)
    obtain ⟨e1, e2, e3, e4, e5, -⟩ := join2_gen G id
    have hg := gen_join3 (G.join2 id) (G.joinI id) (decide (id = [])) tp
    have hv : (G.join2 id).given = G.given ∨ (G.join2 id).given = G.given + 1 := by unfold GG.join2; split; exact .inr rfl; exact .inl rfl
    have hgen := hm.gen
    rw [e1] at hg hgen
    refine ⟨⟨hm.se.trans e3, hm.rb.trans e4, hm.rd.trans e5, ?_, ⟨hgen, Int.le_trans hg (by omega)⟩, fun e => ?_, fun h => (join2_nm h id).mv hm⟩, hg⟩
    · have hgv := hm.gv
      simp only
      rcases hv with hv | hv <;> omega
    · have := hm.sh (by rw [e1]; exact e)
      exact this.trans e2
  where id_ {α : Prop} (x : α) : α := x
theorem mj_join (G : GG) (id : By) (tp : List By) (al : List Top) (n : Int) : Mj G (G.join id tp al n).1 := by
  have ht := mv_tick G al n
  have hg := gen_tick G al n
  obtain ⟨hj, hgj⟩ := mj_join1 (G.tick al n) id tp
  unfold GG.join
  have h1 := ht.gen
  have h2 := hj.gen
  refine ⟨hj.se.trans ht.se, hj.rb.trans ht.rb, hj.rd.trans ht.rd, by rw [← ht.gv]; exact hj.gv, ⟨by omega, by omega⟩, fun e => ?_, fun h => hj.nm (h.mv ht)⟩
  rw [hj.sh (by omega), ht.sh (by omega)]
theorem Mv.mj {G' : GG} (h : Mv G G') (hg : G'.gen ≤ G.gen + 2) : Mj G G' := ⟨h.se, h.rb, h.rd, ⟨by rw [h.gv]; exact Int.le_refl _, by rw [h.gv]; omega⟩, ⟨h.gen, hg⟩, h.sh, fun k => k.mv h⟩
theorem nm_new {session rebalance gen : Int} {round : Bool} : Nm (GG.new session rebalance gen round) := ⟨List.nodup_nil, (by rintro x ⟨⟩), Int.le_refl 0⟩
end
end Go.Proofs.YtkcgokkgefgcjaaGreatDoor.AS
end
section
namespace Go.Proofs.YtkcgokkgefgcjaaGreatDoor.AS
open Go.Proofs.YtkcgokkgefgcjaaGreatDoor.H Go.Proofs.YtkcgokkgefgcjaaGreatDoor.G0 Go.Proofs.YtkcgokkgefgcjaaGreatDoor.G1
set_option linter.unusedVariables false
set_option linter.unusedSimpArgs false
set_option maxRecDepth 100000
structure St (G : GG) : Prop where
  one : G.state = 1 ↔ G.l = []
  rng : G.state = 1 ∨ G.state = 2 ∨ G.state = 3 ∨ G.state = 4
def Late (G : GG) : Prop := ∀ m ∈ G.l, ¬ G.session < G.now - m.heard
def Two (G : GG) : Prop := G.state = 2 → ¬ ((G.l.all (·.joined) || G.over) = true)
def Three (G : GG) : Prop := ¬ (G.state = 3 ∧ G.over = true ∧ (G.any fun m => !m.synced) = true)
structure Quiet (G : GG) : Prop where
  late : Late G
  two : Two G
  three : Three G
  st : St G
section
variable {G : GG}
theorem over0 {G : GG} (h : 1 ≤ G.rebalance) (e : G.since = G.now) : G.over = false := by
  unfold GG.over
  rw [e, decide_eq_false_iff_not]
  omega
theorem goes_quiet' {n : Int} (h : Quiet { G with now := max G.now n }) : G.goes n = { G with now := max G.now n } := by
  obtain ⟨h1, h2, h3, h4⟩ := h
  unfold GG.goes
  generalize ({ G with now := max G.now n } : GG) = H at *
  have e1 : H.goes1 = H := by
    unfold GG.goes1
    have ha : (H.any fun m => decide (H.session < H.now - m.heard)) = false := by
      unfold GG.any
      rw [List.any_eq_false]
      intro m hm
      simpa using h1 m hm
    rw [outs_none ha, ha]
    simp only [Bool.false_and, Bool.false_eq_true, if_false]
    rw [if_neg (fun hh => by
      have := h4.one.2 hh.2
      omega)]
    unfold GG.forms
    rw [if_neg (fun hh => h2 hh.1 hh.2)]
  rw [e1]
  unfold GG.goes2
  rw [if_neg h3]
theorem goes_quiet {n : Int} (h : Quiet G) (hn : n ≤ G.now) : G.goes n = G := by
  have e : ({ G with now := max G.now n } : GG) = G := by rw [Int.max_eq_left hn]
  have := goes_quiet' (G := G) (n := n) (by rw [e]; exact h)
  rw [this, e]
theorem late_outs {p : GM → Bool} (h : Late G) : Late (G.outs p) := fun m hm => h m (List.mem_filter.1 hm).1
theorem late_prepares (h : Late G) : Late G.prepares := by
  unfold GG.prepares
  split
  · exact h
  · intro m hm
    obtain ⟨m', hm', rfl⟩ := List.mem_map.1 (show m ∈ G.l.map _ from hm)
    exact h m' hm'
theorem late_forms (h : Late G) : Late G.forms := by
  unfold GG.forms GG.forms1
  simp only
  repeat' split
  · exact late_outs h
  · intro m hm
    obtain ⟨m', hm', rfl⟩ := List.mem_map.1 (show m ∈ List.map _ _ from hm)
    exact late_outs h m' hm'
  · exact h
theorem st_prepares (G : GG) : St G.prepares := by
  unfold GG.prepares
  split
  · rename_i h
    exact ⟨⟨fun _ => h, fun _ => rfl⟩, .inl rfl⟩
  · rename_i h
    refine ⟨⟨fun e => ?_, fun e => ?_⟩, .inr (.inl rfl)⟩
    · exact absurd (show (2 : Int) = 1 from e) (by decide)
    · exact absurd (List.map_eq_nil_iff.1 e) h
theorem two_prepares (hR : 1 ≤ G.rebalance) : Two G.prepares := by
  unfold GG.prepares
  split
  · intro e
    exact absurd (show (1 : Int) = 2 from e) (by decide)
  · rename_i h
    intro _ hh
    rw [over0 (G := { G.enter 2 with l := G.l.map fun m => { m with joined := false } }) hR rfl, Bool.or_false, List.all_map] at hh
    cases hl : G.l with
    | nil => exact h hl
    | cons m r => rw [hl] at hh; simp at hh
theorem three_prepares (G : GG) : Three G.prepares := by
  unfold GG.prepares Three
  split
  · rintro ⟨e, -⟩
    exact absurd (show (1 : Int) = 3 from e) (by decide)
  · rintro ⟨e, -⟩
    exact absurd (show (2 : Int) = 3 from e) (by decide)
theorem st_forms (h : St G) : St G.forms := by
  unfold GG.forms GG.forms1
  simp only
  repeat' split
  · rename_i h1
    exact ⟨⟨fun _ => h1, fun _ => rfl⟩, .inl rfl⟩
  · rename_i h1
    refine ⟨⟨fun e => ?_, fun e => ?_⟩, .inr (.inr (.inl rfl))⟩
    · exact absurd (show (3 : Int) = 1 from e) (by decide)
    · exact absurd (List.map_eq_nil_iff.1 e) h1
  · exact h
theorem two_forms (G : GG) : Two G.forms := by
  unfold GG.forms
  split
  · unfold GG.forms1
    simp only
    split
    · intro e; exact absurd (show (1 : Int) = 2 from e) (by decide)
    · intro e; exact absurd (show (3 : Int) = 2 from e) (by decide)
  · rename_i h
    intro e hh
    exact h ⟨e, hh⟩
theorem three_forms (hR : 1 ≤ G.rebalance) (h : G.state = 2 ∨ Three G) : Three G.forms := by
  unfold GG.forms
  split
  · unfold GG.forms1
    simp only
    split
    · rintro ⟨e, -⟩; exact absurd (show (1 : Int) = 3 from e) (by decide)
    · rintro ⟨-, e, -⟩
      refine Bool.false_ne_true (Eq.trans (Eq.symm ?_) e)
      exact over0 hR rfl
  · rcases h with h | h
    · rintro ⟨e, -⟩; omega
    · exact h
theorem quiet_goes {n : Int} (hR : 1 ≤ G.rebalance) (hst : St G) : Quiet (G.goes n) := by
  have key : ∀ H : GG, 1 ≤ H.rebalance → St H → Quiet H.goes1.goes2 := by
    intro H hR hst
    have hlate : Late (H.outs fun m => decide (H.session < H.now - m.heard)) := fun m hm => by
      have := (List.mem_filter.1 hm).2
      show ¬ H.session < H.now - m.heard
      simpa using this
    obtain ⟨h1, h2, h3⟩ : Late H.goes1 ∧ St H.goes1 ∧ Two H.goes1 := by
      unfold GG.goes1
      simp only
      generalize hg2 : (H.outs fun m => decide (H.session < H.now - m.heard)) = G2 at *
      have hst2 : (H.any fun m => decide (H.session < H.now - m.heard)) = false → St G2 := fun ha => by
        rw [← hg2, outs_none ha]; exact hst
      have hstate : G2.state = H.state := by rw [← hg2]; rfl
      have hs0 := hst.rng
      generalize (H.any fun m => decide (H.session < H.now - m.heard)) = an at *
      obtain ⟨G3, hG3⟩ : ∃ G3, (if (an && !decide (G2.state = 2)) = true then G2.prepares else G2) = G3 := ⟨_, rfl⟩
      rw [hG3]
      have hl3 : Late G3 := by
        rw [← hG3]; split
        · exact late_prepares hlate
        · exact hlate
      have hs3 : St G3 ∨ G3.state = 2 := by
        rw [← hG3]; split
        · exact .inl (st_prepares _)
        · rename_i hc
          cases han : an with
          | false => exact .inl (hst2 han)
          | true =>
            rw [han] at hc
            exact .inr (by simpa using hc)
      obtain ⟨G4, hG4⟩ : ∃ G4, (if G3.state = 2 ∧ G3.l = [] then G3.enter 1 else G3) = G4 := ⟨_, rfl⟩
      rw [hG4]
      have hl4 : Late G4 := by
        rw [← hG4]; split
        · exact hl3
        · exact hl3
      have hs4 : St G4 := by
        rw [← hG4]; split
        · rename_i hc
          exact ⟨⟨fun _ => hc.2, fun _ => rfl⟩, .inl rfl⟩
        · rename_i hc
          rcases hs3 with hs3 | hs3
          · exact hs3
          · refine ⟨⟨fun e => by omega, fun e => absurd ⟨hs3, e⟩ hc⟩, .inr (.inl hs3)⟩
      exact ⟨late_forms hl4, st_forms hs4, two_forms G4⟩
    have hR1 : 1 ≤ H.goes1.rebalance := by rw [(mv_goes1 H).rb]; exact hR
    generalize H.goes1 = H1 at *
    unfold GG.goes2
    split
    · exact ⟨late_prepares (late_outs h1), two_prepares hR1, three_prepares _, st_prepares _⟩
    · rename_i hc
      exact ⟨h1, h3, hc, h2⟩
  exact key { G with now := max G.now n } hR ⟨hst.one, hst.rng⟩
theorem quiet_tick {al : List Top} {n : Int} (hR : 1 ≤ G.rebalance) (hst : St G) : Quiet (G.tick al n) := quiet_goes (G := { G with all := al }) hR ⟨hst.one, hst.rng⟩
theorem quiet_upd (h : Quiet G) (id : By) (f : GM → GM) (hf : ∀ m, (f m).heard = m.heard ∨ (f m).heard = G.now) (hj : ∀ m, (f m).joined = m.joined) (hs : ∀ m, m.synced = true → (f m).synced = true) (hS : 0 ≤ G.session) : Quiet (G.upd id f) := by
  unfold GG.upd
  cases hi : G.at_ id with
  | none => exact h
  | some i =>
    have hlt : i < G.l.length := (List.findIdx?_eq_some_iff_getElem.1 hi).1
    obtain ⟨h1, h2, h3, h4⟩ := h
    have hm := getD_memD gm0 hlt
    have hpos : 0 < G.l.length := by omega
    have hne : G.l.set i (f (G.l.getD i gm0)) ≠ [] := fun e => by
      have := congrArg List.length e
      rw [List.length_set] at this
      simp at this
      rw [this] at hpos
      exact absurd hpos (by simp)
    have hne0 : G.l ≠ [] := fun e => by rw [e] at hpos; exact absurd hpos (by simp)
    refine ⟨fun m hm' => ?_, fun e hh => ?_, ?_, ⟨⟨fun e => absurd (h4.one.1 e) hne0, fun e => absurd e hne⟩, h4.rng⟩⟩
    · rcases List.mem_or_eq_of_mem_set (show m ∈ G.l.set i _ from hm') with hm' | rfl
      · exact h1 m hm'
      · rcases hf (G.l.getD i gm0) with e | e
        · rw [e]; exact h1 _ hm
        · rw [e]; show ¬ G.session < G.now - G.now; omega
    · refine h2 e ?_
      have : (G.l.set i (f (G.l.getD i gm0))).all (·.joined) = G.l.all (·.joined) := by
        have e2 : ∀ l : List GM, l.all (·.joined) = (l.map (·.joined)).all (fun x => x) := fun l => by rw [List.all_map]; rfl
        rw [e2, e2, List.map_set, hj, getD_get _ _ hlt]
        have : G.l[i].joined = (G.l.map (·.joined))[i]'(by simpa using hlt) := by simp
        rw [this, List.set_getElem_self]
      rw [← this]
      exact hh
    · rintro ⟨e1, e2, e3⟩
      refine h3 ⟨e1, e2, ?_⟩
      unfold GG.any at e3 ⊢
      rw [List.any_eq_true] at e3 ⊢
      obtain ⟨m, hm', hms⟩ := e3
      rcases List.mem_or_eq_of_mem_set (show m ∈ G.l.set i _ from hm') with hm' | rfl
      · exact ⟨m, hm', hms⟩
      · refine ⟨_, hm, ?_⟩
        cases hsy : (G.l.getD i gm0).synced with
        | false => rfl
        | true => rw [hs _ hsy] at hms; cases hms
theorem quiet_heard {id : By} {gen n : Int} (hR : 1 ≤ G.rebalance) (hS : 0 ≤ G.session) (hst : St G) : Quiet (G.heard id gen n).1 := by
  have h := quiet_goes (n := n) hR hst
  have hS' : 0 ≤ (G.goes n).session := by rw [(mv_goes G n).se]; exact hS
  unfold GG.heard
  simp only
  split
  · exact quiet_upd h id (fun m => { m with heard := (G.goes n).now }) (fun m => .inr rfl) (fun m => rfl) (fun m hm => hm) hS'
  · exact h
theorem quiet_four (h : Quiet G) (hs : G.state = 3) : Quiet (G.enter 4) := by
  obtain ⟨h1, h2, h3, h4⟩ := h
  refine ⟨h1, fun e => absurd (show (4 : Int) = 2 from e) (by decide), ?_, ⟨⟨fun e => absurd (show (4 : Int) = 1 from e) (by decide), fun e => ?_⟩, .inr (.inr (.inr rfl))⟩⟩
  · rintro ⟨e, -⟩; exact absurd (show (4 : Int) = 3 from e) (by decide)
  · have := h4.one.2 e
    omega
theorem quiet_sync {id : By} {gen n : Int} (hR : 1 ≤ G.rebalance) (hS : 0 ≤ G.session) (hst : St G) : Quiet (G.sync id gen n).1 := by
  have h := quiet_heard (id := id) (gen := gen) (n := n) hR hS hst
  have hS' : 0 ≤ (G.heard id gen n).1.session := by rw [(mv_heard G id gen n).se]; exact hS
  unfold GG.sync
  split
  · have h2 := quiet_upd h id (fun m => { m with synced := true }) (fun m => .inl rfl) (fun m => rfl) (fun m hm => rfl) hS'
    simp only
    split
    · rename_i hc
      exact quiet_four h2 hc.1
    · exact h2
  · exact h
theorem quiet_leave {id : By} {al : List Top} {n : Int} (hR : 1 ≤ G.rebalance) (hst : St G) : Quiet (G.leave id al n).1 := by
  have h := quiet_tick (al := al) (n := n) hR hst
  have hR' : 1 ≤ (G.tick al n).rebalance := by rw [(mv_tick G al n).rb]; exact hR
  unfold GG.leave
  simp only
  split
  · exact h
  · generalize hg2 : ((G.tick al n).outs fun m => decide (m.id = id)) = G2 at *
    have hl2 : Late G2 := by rw [← hg2]; exact late_outs h.late
    have hR2 : 1 ≤ G2.rebalance := by rw [← hg2]; exact hR'
    split
    · refine ⟨late_forms (late_prepares hl2), two_forms _, three_forms (by rw [(mv_prepares G2).rb]; exact hR2) (.inr (three_prepares _)), st_forms (st_prepares _)⟩
    · rename_i hc
      have hs2 : G2.state = 2 := by
        by_cases e : G2.state = 2
        · exact e
        · exact absurd (.inl e) hc
      have hn2 : G2.l ≠ [] := fun e => hc (.inr e)
      exact ⟨late_forms hl2, two_forms _, three_forms hR2 (.inl hs2), st_forms ⟨⟨fun e => by omega, fun e => absurd e hn2⟩, .inr (.inl hs2)⟩⟩
theorem quiet_join3 {i : Nat} {f : Bool} {tp : List By} (hi : i < G.l.length) (hR : 1 ≤ G.rebalance) (hS : 0 ≤ G.session) (hl : ∀ j m, G.l[j]? = some m → j ≠ i → ¬ G.session < G.now - m.heard) (hq : f = false → Quiet G) : Quiet (G.join3 i f tp) := by
  have hl3 : Late (G.updAt i fun m => { m with heard := G.now }) := fun m hm => by
    obtain ⟨j, hj, rfl⟩ := List.mem_iff_getElem.1 (show m ∈ G.l.set i _ from hm)
    rw [List.length_set] at hj
    rw [List.getElem_set]
    split
    · show ¬ G.session < G.now - G.now; omega
    · rename_i hne
      exact hl j _ (List.getElem?_eq_getElem hj) (Ne.symm hne)
  unfold GG.join3
  simp only
  split
  · generalize hg4 : ((G.updAt i fun m => { m with heard := G.now }).updAt i fun m => { m with tp := tp }) = G4
    have hlen4 : G4.l.length = G.l.length := by rw [← hg4, updAt_len, updAt_len]
    have hl4 : Late G4 := fun m hm => by
      rw [← hg4] at hm ⊢
      rcases List.mem_or_eq_of_mem_set (show m ∈ (G.updAt i fun m => { m with heard := G.now }).l.set i _ from hm) with hm | rfl
      · exact hl3 m hm
      · exact hl3 ((G.updAt i fun m => { m with heard := G.now }).l.getD i gm0) (getD_memD gm0 (by rw [updAt_len]; exact hi))
    have hR4 : 1 ≤ G4.rebalance := by rw [← hg4]; exact hR
    generalize hg5 : (if G4.state = 2 then G4 else G4.prepares) = G5
    have hl5 : Late G5 := by
      rw [← hg5]; split
      · exact hl4
      · exact late_prepares hl4
    have hlen5 : G5.l.length = G.l.length := by
      rw [← hg5]; split
      · exact hlen4
      · rw [prepares_len, hlen4]
    have hs5 : G5.state = 2 := by
      rw [← hg5]; split
      · assumption
      · unfold GG.prepares
        rw [if_neg (fun e => by rw [e] at hlen4; simp at hlen4; omega)]
        rfl
    have hR5 : 1 ≤ G5.rebalance := by
      rw [← hg5]; split
      · exact hR4
      · rw [(mv_prepares G4).rb]; exact hR4
    have hl6 : Late (G5.updAt i fun m => { m with joined := true }) := fun m hm => by
      rcases List.mem_or_eq_of_mem_set (show m ∈ G5.l.set i _ from hm) with hm | rfl
      · exact hl5 m hm
      · exact hl5 (G5.l.getD i gm0) (getD_memD gm0 (by omega))
    have hst6 : St (G5.updAt i fun m => { m with joined := true }) := ⟨⟨fun e => by
      have : G5.state = 1 := e
      omega, fun e => by
      have := congrArg List.length e
      rw [updAt_len, hlen5] at this
      simp only [List.length_nil] at this
      omega⟩, .inr (.inl hs5)⟩
    exact ⟨late_forms hl6, two_forms _, three_forms hR5 (.inl hs5), st_forms hst6⟩
  · rename_i hc
    have hf : f = false := by
      cases f
      · rfl
      · exact absurd (.inl rfl) hc
    obtain ⟨h1, h2, h3, h4⟩ := hq hf
    have hs : G.state ≠ 2 := fun e => hc (.inr (.inl e))
    have hne0 : G.l ≠ [] := fun e => by rw [e] at hi; exact absurd hi (by simp)
    refine ⟨hl3, fun e => absurd e hs, ?_, ⟨⟨fun e => absurd (h4.one.1 e) hne0, fun e => ?_⟩, h4.rng⟩⟩
    · rintro ⟨e1, e2, e3⟩
      refine h3 ⟨e1, e2, ?_⟩
      unfold GG.any at e3 ⊢
      rw [List.any_eq_true] at e3 ⊢
      obtain ⟨m, hm', hms⟩ := e3
      rcases List.mem_or_eq_of_mem_set (show m ∈ G.l.set i _ from hm') with hm' | rfl
      · exact ⟨m, hm', hms⟩
      · exact ⟨_, getD_memD gm0 hi, hms⟩
    · have := congrArg List.length e
      rw [updAt_len] at this
      simp only [List.length_nil] at this
      omega
theorem quiet_join1 {id : By} {tp : List By} (h : Quiet G) (hR : 1 ≤ G.rebalance) (hS : 0 ≤ G.session) : Quiet (G.join1 id tp).1 := by
  unfold GG.join1
  repeat' split
  · exact h
  · exact h
  · exact h
  · rename_i h1 h2 h3
    obtain ⟨e1, e2, e3, e4, e5, e6, e7, e8⟩ := join2_gen G id
    refine quiet_join3 (joinI_lt G id h3) (by rw [e4]; exact hR) (by rw [e3]; exact hS) (fun j m hj hne => ?_) (fun hf => ?_)
    · rw [e3, e7]
      have hm : m ∈ G.l := by
        unfold GG.join2 GG.joinI at *
        by_cases hid : id = []
        · rw [if_pos hid] at hj hne
          have hj' : (G.l ++ [(⟨G.nm id, [], 0, false, false⟩ : GM)])[j]? = some m := hj
          rcases Nat.lt_trichotomy j G.l.length with hlt | heq | hgt
          · rw [List.getElem?_append_left hlt] at hj'
            exact List.mem_of_getElem? hj'
          · exact absurd heq hne
          · rw [List.getElem?_eq_none (by simp; omega)] at hj'
            cases hj'
        · rw [if_neg hid] at hj
          exact List.mem_of_getElem? hj
      exact h.late m hm
    · have hid : id ≠ [] := of_decide_eq_false hf
      have : G.join2 id = G := by unfold GG.join2; rw [if_neg hid]
      rw [this]
      exact h
theorem quiet_join {id : By} {tp : List By} {al : List Top} {n : Int} (hR : 1 ≤ G.rebalance) (hS : 0 ≤ G.session) (hst : St G) : Quiet (G.join id tp al n).1 :=
  quiet_join1 (quiet_tick hR hst) (by rw [(mv_tick G al n).rb]; exact hR) (by rw [(mv_tick G al n).se]; exact hS)
theorem quiet_new {session rebalance gen : Int} {round : Bool} : Quiet (GG.new session rebalance gen round) :=
  ⟨(by rintro m ⟨⟩), fun e => absurd (show (1 : Int) = 2 from e) (by decide), (by rintro ⟨e, -⟩; exact absurd (show (1 : Int) = 3 from e) (by decide)), ⟨⟨fun _ => rfl, fun _ => rfl⟩, .inl rfl⟩⟩
end
end Go.Proofs.YtkcgokkgefgcjaaGreatDoor.AS
end
section
namespace Go.Proofs.YtkcgokkgefgcjaaGreatDoor.AS
open Go.Proofs.YtkcgokkgefgcjaaGreatDoor.H Go.Proofs.YtkcgokkgefgcjaaGreatDoor.G0 Go.Proofs.YtkcgokkgefgcjaaGreatDoor.G1
set_option linter.unusedVariables false
set_option linter.unusedSimpArgs false
set_option maxRecDepth 100000
section
variable {G : GG}
theorem join_first (hl : G.l = []) (hs : G.state = 1) {tp : List By} (htp : tp.length ≤ 30) (al : List Top) {n : Int} (hn : G.now ≤ n) : G.join [] tp al n =
    ({ G with all := al, now := n, since := n, given := G.given + 1, state := 3, gen := G.gen + 1, l := [⟨G.nm [], tp, n, true, false⟩], shares := sharesOf G.round [(G.nm [], tp)] al }, G.nm [], G.gen + 1, 0) := by
  have hq : Quiet { ({ G with all := al } : GG) with now := max G.now n } := by
    refine ⟨fun m hm => ?_, fun e => ?_, ?_, ⟨⟨fun _ => hl, fun _ => hs⟩, .inl hs⟩⟩
    · have : m ∈ G.l := hm
      rw [hl] at this
      cases this
    · have : G.state = 2 := e
      omega
    · rintro ⟨e, -⟩
      have : G.state = 3 := e
      omega
  have e : G.tick al n = { G with all := al, now := n } := by
    unfold GG.tick
    rw [goes_quiet' hq]
    simp only [Int.max_eq_right hn]
  unfold GG.join
  rw [e]
  unfold GG.join1
  rw [if_neg (by omega), if_neg (by simp [hl]), if_neg (by simp)]
  have e2 : ({ G with all := al, now := n } : GG).join2 [] = { G with all := al, now := n, given := G.given + 1, l := [⟨G.nm [], [], 0, false, false⟩] } := by
    unfold GG.join2
    rw [if_pos rfl]
    simp [hl, GG.nm]
  have ei : ({ G with all := al, now := n } : GG).joinI [] = 0 := by unfold GG.joinI; rw [if_pos rfl]; simp [hl]
  rw [e2, ei]
  have e3 : ({ G with all := al, now := n, given := G.given + 1, l := [⟨G.nm [], [], 0, false, false⟩] } : GG).join3 0 (decide (([] : By) = [])) tp = { G with all := al, now := n, since := n, given := G.given + 1, state := 3, gen := G.gen + 1, l := [⟨G.nm [], tp, n, true, false⟩], shares := sharesOf G.round [(G.nm [], tp)] al } := by
    simp [GG.join3, GG.updAt, GG.prepares, GG.enter, GG.forms, GG.forms1, GG.outs, hs]
  rw [e3]
  simp only [GG.nm]
  rfl
/-- Who is asked for is there: the first. -/
theorem at_one {id : By} {m : GM} (hl : G.l = [m]) (h : m.id = id) : G.at_ id = some 0 := by
  unfold GG.at_
  rw [hl]
  simp [h]
theorem awake8 (s : HS) : HC Tryz.prog 5 [] s (fun v t => v = .lit (.bool true)) := by
  refine HC5 ?_
  unfold c5
  refine (new9 (session := 10) (rebalance := 5) (gen := 0) (round := false) (by omega) (by omega) (by omega) s).mono ?_
  rintro _ t ⟨g, hg, rfl, h0⟩
  simp only [vExtract, List.getElem?_cons_succ, List.getElem?_cons_zero, bindO]
  refine (new9_bad t false 5 0).mono ?_
  rintro _ t1 ⟨rfl, rfl⟩
  simp only [vExtract, List.getElem?_cons_succ, List.getElem?_cons_zero]
  refine Join.of (fun xs u => u = t1 ∧ xs = [.lit (.bool false)]) ?_ ?_
  rotate_left
  · intro K9 hK9
    simp only [neq_24, eqp23, decide_true, Bool.not_true, hcond]
    exact hK9 _ _ ⟨rfl, rfl⟩
  rintro _ u ⟨rfl, rfl⟩
  simp only [List.headD_cons, hcond]
  refine (all20 3 u).mono ?_
  rintro _ t2 ⟨rfl, a, c, rfl, ha, -, -⟩
  simp only [vExtract, List.getElem?_cons_succ, List.getElem?_cons_zero]
  refine hBS_in (cs := rows strC [[98]]) rfl fun i1 h1 => ?_
  have hb0 := Bd.new (session := 10) (rebalance := 5) (gen := 0) (round := false) (by omega)
  have hj := join_first (G := GG.new 10 5 0 false) rfl rfl (tp := [[98]]) (by simp) (allL 3) (n := 0) (Int.le_refl 0)
  have hup := lit_up (s := t2) (id := i1) (sz := 1) (n := 1) (cs := rows strC [[98]]) h1 rfl (by omega) [.ptr g 0, strV []] [a, .lit (.int .i64 0)] (fun q cs => rfl) (fun q cs => by obtain ⟨rfl, -⟩ := ha; simp [frz2, frz1, frz0, rowL])
  have hcall := join10 h0 hb0 (by omega) ha (allL_len 3) (now := 0) (by omega) ⟨by show (0 : Int) ≤ 0; omega, by show (0 : Int) < 99; omega⟩ [] (some [[98]]) (by simp)
  refine (HC.upArgs hup hcall).mono ?_
  rintro _ t3 ⟨h3, rfl⟩
  have hb1 := hb0.join (id := []) (tp := [[98]]) (al := allL 3) (now := 0) (by omega) (by simp) (allL_len 3) (by omega)
  have hq := quiet_join (id := []) (tp := [[98]]) (al := allL 3) (n := 0) (G := GG.new 10 5 0 false) (by show (1 : Int) ≤ 5; omega) (by show (0 : Int) ≤ 10; omega) quiet_new.st
  simp only [Option.getD_some] at h3 ⊢
  have hnm : (GG.new 10 5 0 false).nm [] = [109, 49] := by
    unfold GG.nm
    rw [if_pos rfl]
    show 109 :: decL 1 = _
    rw [decL_small (by omega)]
    rfl
  rw [hnm] at hj
  have hj' : (GG.new 10 5 0 false).join [] [[98]] (allL 3) 0 = (⟨10, 5, false, 3, 1, 1, 0, 0, allL 3, [⟨[109, 49], [[98]], 0, true, false⟩], sharesOf false [([109, 49], [[98]])] (allL 3)⟩, [109, 49], 1, 0) := hj
  rw [hj'] at h3 hb1 hq ⊢
  have hsum := resD_sum (rd := false) (l := [([109, 49], [[98]])]) (al := allL 3) ⟨by decide, by decide, by decide⟩
  simp only [List.map_cons, List.map_nil, List.sum_cons, List.sum_nil, Nat.add_zero] at hsum
  rw [show partsOf (fun nm => [(([109, 49] : By), [([98] : By)])].any fun p => decide (nm ∈ p.2)) (allL 3) = 3 from by decide] at hsum
  clear hj hj'
  simp only at h3 hb1 hq ⊢
  generalize hsh : sharesOf false [([109, 49], [[98]])] (allL 3) = D at *
  simp only [vExtract, List.getElem?_cons_succ, List.getElem?_cons_zero]
  generalize hG1 : (⟨10, 5, false, 3, 1, 1, 0, 0, allL 3, [⟨[109, 49], [[98]], 0, true, false⟩], D⟩ : GG) = G1 at *
  have e1 : G1.goes 0 = G1 := goes_quiet hq (by rw [← hG1]; exact Int.le_refl 0)
  have ea : G1.at_ [109, 49] = some 0 := at_one (by rw [← hG1]) rfl
  have ef : G1.fenceE [109, 49] 1 = 0 := by unfold GG.fenceE; rw [ea, ← hG1]; rfl
  have eh : G1.heard [109, 49] 1 0 = (G1, 0) := by
    unfold GG.heard
    simp only
    rw [e1, if_pos ef]
    unfold GG.upd
    rw [ea, ← hG1]
    rfl
  have es : G1.sync [109, 49] 1 0 = ({ G1 with state := 4, since := 0, l := [⟨[109, 49], [[98]], 0, true, true⟩] }, ofD D [109, 49], 0) := by
    unfold GG.sync
    rw [eh]
    simp only [if_true]
    unfold GG.upd
    rw [ea, ← hG1]
    rfl
  have hs := sync12 h3 hb1 (by omega) [109, 49] 1 (now := 0) (by omega)
  refine hs.mono ?_
  rintro _ t4 ⟨h4, o', rfl, ho'⟩
  have hb2 := hb1.sync (id := [109, 49]) (gen := 1) (now := 0) (by omega) (by omega)
  have hq2 := quiet_sync (id := [109, 49]) (gen := 1) (n := 0) (by rw [← hG1]; show (1 : Int) ≤ 5; omega) (by rw [← hG1]; show (0 : Int) ≤ 10; omega) hq.st
  rw [es] at h4 ho' hb2 hq2 ⊢
  simp only at h4 ho' hb2 hq2 ⊢
  simp only [vExtract, List.getElem?_cons_succ, List.getElem?_cons_zero]
  rw [show (HV.lit (.string { data := #[109, 49] })) = strV [109, 49] from rfl]
  rw [show vLenT (Tryz.prog.underlying 46) t4 (rowV slC 2 o') = some (.lit (.int .i64 (((o'.getD []).length : Nat) : Int))) from len_rowV o' t4]
  rw [ho', hsum]
  simp only [eql_s, eql_n, eql_24, decide_true, hcond]
  rw [show decide ((((3 : Nat) : Nat) : Int) = 3) = true from rfl]
  simp only
  refine (state14 h4).mono ?_
  rintro _ t5 ⟨rfl, rfl⟩
  simp only [eql_n, decide_true]
  refine (beat16 h4 hb2 (by omega) [109, 49] 2 (now := 0) (by omega)).mono ?_
  rintro _ t6 ⟨h6, rfl⟩
  have e2 : ({ G1 with state := 4, since := 0, l := [⟨[109, 49], [[98]], 0, true, true⟩] } : GG).goes 0 = { G1 with state := 4, since := 0, l := [⟨[109, 49], [[98]], 0, true, true⟩] } := goes_quiet hq2 (by rw [← hG1]; exact Int.le_refl 0)
  have e3 : (({ G1 with state := 4, since := 0, l := [⟨[109, 49], [[98]], 0, true, true⟩] } : GG).heard [109, 49] 2 0).2 = 12 := by
    unfold GG.heard
    simp only
    rw [e2]
    have : ({ G1 with state := 4, since := 0, l := [⟨[109, 49], [[98]], 0, true, true⟩] } : GG).fenceE [109, 49] 2 = 12 := by
      unfold GG.fenceE
      rw [at_one (m := ⟨[109, 49], [[98]], 0, true, true⟩) rfl rfl, ← hG1]
      rfl
    rw [this]
    rfl
  rw [e3]
  simp only [eql_24, decide_true]
end
end Go.Proofs.YtkcgokkgefgcjaaGreatDoor.AS
end
section
namespace Go.Proofs.YtkcgokkgefgcjaaGreatDoor.AS
open Go.Proofs.YtkcgokkgefgcjaaGreatDoor.H Go.Proofs.YtkcgokkgefgcjaaGreatDoor.G0 Go.Proofs.YtkcgokkgefgcjaaGreatDoor.G1
set_option linter.unusedVariables false
set_option linter.unusedSimpArgs false
set_option maxRecDepth 100000
section
variable {G : GG}
def nmJ (j : Nat) : By := 109 :: decL (j + 1)
structure FullI (i : Nat) (G : GG) : Prop where
  q : Quiet G
  se : G.session = 1000
  rb : G.rebalance = 1000
  nw : G.now = 0
  all : 0 < i → G.all = allL 2
  gv : G.given = (min i 20 : Nat)
  ids : ids G = (List.range (min i 20)).map nmJ
  s1 : i = 1 → G.state = 3
  s2 : 2 ≤ i → G.state = 2
  un : 2 ≤ i → ∃ m ∈ G.l, m.joined = false ∧ m.id = nmJ 0
theorem FullI.len {i : Nat} (h : FullI i G) : G.l.length = min i 20 := by
  have := congrArg List.length h.ids
  unfold AS.ids at this
  rw [List.length_map, List.length_map, List.length_range] at this
  exact this
end
end Go.Proofs.YtkcgokkgefgcjaaGreatDoor.AS
end
section
namespace Go.Proofs.YtkcgokkgefgcjaaGreatDoor.AS
open Go.Proofs.YtkcgokkgefgcjaaGreatDoor.H Go.Proofs.YtkcgokkgefgcjaaGreatDoor.G0 Go.Proofs.YtkcgokkgefgcjaaGreatDoor.G1
set_option linter.unusedVariables false
set_option linter.unusedSimpArgs false
set_option maxRecDepth 100000
section
variable {G : GG}
theorem now_prepares (G : GG) : G.prepares.now = G.now := by unfold GG.prepares; split <;> rfl
theorem now_forms (G : GG) : G.forms.now = G.now := by
  unfold GG.forms GG.forms1
  simp only
  repeat' split
  all_goals rfl
theorem now_goes (G : GG) (n : Int) : (G.goes n).now = max G.now n := by
  have h1 : ∀ G : GG, G.goes1.now = G.now := fun G => by
    unfold GG.goes1
    simp only
    rw [now_forms]
    have e : ∀ (c : Prop) [Decidable c] (A B : GG), A.now = G.now → B.now = G.now → (if c then A else B).now = G.now := fun c _ A B ha hb => by
      split
      · exact ha
      · exact hb
    have e3 : ∀ (c : Prop) [Decidable c], (if c then (G.outs fun m => decide (G.session < G.now - m.heard)).prepares else G.outs fun m => decide (G.session < G.now - m.heard)).now = G.now := fun c _ => e _ _ _ (by rw [now_prepares]; rfl) rfl
    exact e _ _ _ (e3 _) (e3 _)
  unfold GG.goes GG.goes2
  split
  · rw [now_prepares]; exact h1 { G with now := max G.now n }
  · exact h1 { G with now := max G.now n }
theorem now_tick (G : GG) (al : List Top) (n : Int) : (G.tick al n).now = max G.now n := now_goes _ n
theorem now_upd (G : GG) (id : By) (f : GM → GM) : (G.upd id f).now = G.now := by unfold GG.upd; split <;> rfl
theorem now_heard (G : GG) (id : By) (gen n : Int) : (G.heard id gen n).1.now = max G.now n := by
  unfold GG.heard
  simp only
  split
  · rw [now_upd, now_goes]
  · exact now_goes G n
theorem now_sync (G : GG) (id : By) (gen n : Int) : (G.sync id gen n).1.now = max G.now n := by
  unfold GG.sync
  split
  · simp only
    split
    · show (GG.upd _ _ _).now = _; rw [now_upd, now_heard]
    · rw [now_upd, now_heard]
  · exact now_heard G id gen n
theorem now_leave (G : GG) (id : By) (al : List Top) (n : Int) : (G.leave id al n).1.now = max G.now n := by
  unfold GG.leave
  simp only
  split
  · exact now_tick G al n
  · rw [now_forms]
    split
    · rw [now_prepares]; exact now_tick G al n
    · exact now_tick G al n
theorem now_join (G : GG) (id : By) (tp : List By) (al : List Top) (n : Int) : (G.join id tp al n).1.now = max G.now n := by
  rw [← now_tick G al n]
  unfold GG.join
  generalize G.tick al n = G1
  unfold GG.join1
  repeat' split
  · rfl
  · rfl
  · rfl
  · have e2 := (join2_gen G1 id).2.2.2.2.2.2.1
    rw [← e2]
    unfold GG.join3
    simp only
    split
    · rw [now_forms]
      show (if _ then _ else _ : GG).now = _
      split
      · rfl
      · rw [now_prepares]; rfl
    · rfl
/-- A step, as these statements take it. -/
noncomputable def stepF (G : GG) (x : Step) (al : List Top) (n : Int) : GG :=
  if x.kind = 1 then (G.join x.member (x.topics.getD []) al n).1
  else if x.kind = 2 then (G.sync x.member x.gen n).1
  else if x.kind = 3 then (G.heard x.member x.gen n).1
  else if x.kind = 4 then (G.leave x.member al n).1
  else G.tick al n
/-- What holds behind each step. -/
structure Run (se rb : Int) (i : Nat) (n : Int) (G : GG) : Prop where
  q : Quiet G
  se : G.session = se
  rb : G.rebalance = rb
  nw : G.now = n
  gv : G.given ≤ i
  nm : Nm G
  bd : Bd (3 * i) G
theorem run_mj {se rb : Int} {i : Nat} {n n' : Int} {G G' : GG} (h : Run se rb i n G) (hm : Mj G G') (hq : Quiet G') (hn : G'.now = n') (hb : Bd (3 * (i + 1)) G') : Run se rb (i + 1) n' G' :=
  ⟨hq, hm.se.trans h.se, hm.rb.trans h.rb, hn, by have := h.gv; have := hm.gv; omega, hm.nm h.nm, hb⟩
theorem run_step {se rb : Int} {i : Nat} {n : Int} {x : Step} {al : List Top} {n' : Int} (h : Run se rb i n G) (hse : 0 ≤ se) (hrb : 1 ≤ rb) (hi : 3 * (i + 1) ≤ 1000000) (hal : al.length ≤ 1000) (hn' : n ≤ n') (hn2 : n' ≤ 1125899906842624) (ht : (x.topics.getD []).length ≤ 1000) : Mj G (stepF G x al n') ∧ Run se rb (i + 1) n' (stepF G x al n') := by
  have hR : 1 ≤ G.rebalance := by rw [h.rb]; exact hrb
  have hS : 0 ≤ G.session := by rw [h.se]; exact hse
  have hb := h.bd
  have hmax : max G.now n' = n' := by rw [h.nw]; omega
  unfold stepF
  repeat' split
  · exact ⟨mj_join .., run_mj h (mj_join ..) (quiet_join hR hS h.q.st) (by rw [now_join, hmax]) (hb.join (by omega) (by omega) hal hn2)⟩
  · have hm := (mv_sync G x.member x.gen n').mj (by have := gen_sync G x.member x.gen n'; omega)
    exact ⟨hm, run_mj h hm (quiet_sync hR hS h.q.st) (by rw [now_sync, hmax]) ((hb.sync (by omega) hn2).mono (by omega) (by omega))⟩
  · have hm := (mv_heard G x.member x.gen n').mj (by have := gen_heard G x.member x.gen n'; omega)
    exact ⟨hm, run_mj h hm (quiet_heard hR hS h.q.st) (by rw [now_heard, hmax]) ((hb.heard (by omega) hn2).mono (by omega) (by omega))⟩
  · have hm := (mv_leave G x.member al n').mj (gen_leave ..)
    exact ⟨hm, run_mj h hm (quiet_leave hR h.q.st) (by rw [now_leave, hmax]) ((hb.leave (by omega) hal hn2).mono (by omega) (by omega))⟩
  · have hm := (mv_tick G al n').mj (by have := gen_tick G al n'; omega)
    exact ⟨hm, run_mj h hm (quiet_tick hR h.q.st) (by rw [now_tick, hmax]) ((hb.tick (by omega) hal hn2).mono (by omega) (by omega))⟩
theorem loadStep (x : Step) (s : HS) : vLoad s (.elt (stepC x) 0) 5 true = some (.agg (stepC x)) := rfl
end
end Go.Proofs.YtkcgokkgefgcjaaGreatDoor.AS
end
section
namespace Go.Proofs.YtkcgokkgefgcjaaGreatDoor.AS
open Go.Proofs.YtkcgokkgefgcjaaGreatDoor.H Go.Proofs.YtkcgokkgefgcjaaGreatDoor.G0 Go.Proofs.YtkcgokkgefgcjaaGreatDoor.G1
set_option linter.unusedVariables false
set_option linter.unusedSimpArgs false
set_option maxRecDepth 100000
section
variable {G : GG}
def Sr (G G' : GG) : Prop := G'.all = G.all ∧ (G'.shares = G.shares ∨ ∃ rd l, G'.shares = sharesOf rd l G.all)
theorem Sr.refl (G : GG) : Sr G G := ⟨rfl, .inl rfl⟩
theorem Sr.trans {G1 G2 G3 : GG} (h : Sr G1 G2) (k : Sr G2 G3) : Sr G1 G3 := by
  refine ⟨k.1.trans h.1, ?_⟩
  rcases k.2 with e | ⟨rd, l, e⟩
  · rw [e]; exact h.2
  · exact .inr ⟨rd, l, by rw [e, h.1]⟩
theorem Sr.ite {c : Prop} [Decidable c] {G G1 G2 : GG} (h1 : Sr G G1) (h2 : Sr G G2) : Sr G (if c then G1 else G2) := by
  split
  · exact h1
  · exact h2
/-- Whose topics they are. -/
def SA (al : List Top) (G : GG) : Prop := (G.all = al ∨ G.all = []) ∧ (G.shares = [] ∨ ∃ rd l a, (a = al ∨ a = []) ∧ G.shares = sharesOf rd l a)
theorem parts_le (w : By → Bool) : ∀ tl : List Top, partsOf w tl ≤ (tl.map fun t => t.parts.toNat).sum
  | [] => Nat.le_refl _
  | t :: tl => by
    have := parts_le w tl
    unfold partsOf at this ⊢
    rw [List.map_cons, List.map_cons, List.sum_cons, List.sum_cons]
    split <;> omega
theorem ofD_le (rd : Bool) (l : List (By × List By)) (al : List Top) (id : By) : (ofD (sharesOf rd l al) id).length ≤ (al.map fun t => t.parts.toNat).sum := by
  unfold sharesOf
  by_cases hok : okA (l.map fun p => (⟨p.1, some p.2⟩ : Mem)) al
  case neg =>
    unfold resD
    rw [if_neg hok]
    exact Nat.zero_le _
  obtain ⟨rg, hrg, hg⟩ : ∃ rg : List Mem → List Top → List (Nat × Slot), resD (if rd then roundA else rangeA) (l.map fun p => (⟨p.1, some p.2⟩ : Mem)) al = shD rg (l.map fun p => (⟨p.1, some p.2⟩ : Mem)) al ∧ Good (isM (l.map fun p => (⟨p.1, some p.2⟩ : Mem))) (isT al) (rg (isM (l.map fun p => (⟨p.1, some p.2⟩ : Mem))) (isT al)) := by
    unfold resD
    cases rd with
    | true => exact ⟨roundA, by rw [if_pos hok]; simp, good_round _ _⟩
    | false => exact ⟨rangeA, by rw [if_pos hok]; simp, good_range _ _⟩
  rw [hrg]
  generalize (l.map fun p => (⟨p.1, some p.2⟩ : Mem)) = ml at *
  have hlen : (rg (isM ml) (isT al)).length ≤ (al.map fun t => t.parts.toNat).sum := by
    have e2 := congrArg List.length hg.slots
    rw [List.length_map] at e2
    rw [e2, slots_lenW, ← sum_perm ((isort_perm Top.name al).map fun t => t.parts.toNat)]
    exact parts_le _ _
  by_cases hf : ∃ i, i < ml.length ∧ id = ((isM ml).getD i m0).id
  · obtain ⟨i, hi, rfl⟩ := hf
    rw [ofD_shD hok.2.1 hi]
    refine Nat.le_trans ?_ hlen
    unfold shOf
    rw [List.length_map]
    exact List.length_filter_le _ _
  · unfold ofD
    rw [List.find?_eq_none.2 fun d hd => by
      obtain ⟨i, hi, rfl⟩ := List.mem_iff_getElem.1 hd
      have hi' : i < ml.length := by rw [shD_len] at hi; exact hi
      have := shD_get (rg := rg) (l := ml) (tl := al) hi'
      rw [getD_get _ _ hi] at this
      rw [this]
      simp only [beq_iff_eq]
      intro e
      exact hf ⟨i, hi', e.symm⟩]
    exact Nat.zero_le _
theorem SA.le {k : Int} (h : SA (allL k) G) (id : By) : (ofD G.shares id).length ≤ 6 := by
  rcases h.2 with e | ⟨rd, l, al', hal, e⟩
  · rw [e]; exact Nat.zero_le _
  · rw [e]
    refine Nat.le_trans (ofD_le rd l al' id) ?_
    rcases hal with rfl | rfl
    · show (((k % 5).toNat : Nat) : Int).toNat + (2 + 0) ≤ 6
      omega
    · exact Nat.zero_le _
theorem sync_len (G : GG) (id : By) (gen n : Int) : (G.sync id gen n).2.1 = [] ∨ (G.sync id gen n).2.1 = ofD (G.sync id gen n).1.shares id := by
  unfold GG.sync
  by_cases he : (G.heard id gen n).2 = 0
  · rw [if_pos he]
    simp only
    split
    · exact .inr rfl
    · exact .inr rfl
  · rw [if_neg he]
    exact .inl rfl
theorem Mv.len {G' : GG} (h : Mv G G') : G'.l.length ≤ G.l.length := by
  have := h.ids.length_le
  unfold AS.ids at this
  rw [List.length_map, List.length_map] at this
  exact this
end
end Go.Proofs.YtkcgokkgefgcjaaGreatDoor.AS
end
end
section
namespace Go.Proofs.YtkcgokkgefgcjaaGreatDoor.AS
open Go.Proofs.YtkcgokkgefgcjaaGreatDoor.H Go.Proofs.YtkcgokkgefgcjaaGreatDoor.G0
set_option linter.unusedVariables false
set_option linter.unusedSimpArgs false
set_option maxRecDepth 100000
/-- The document's group, in memory. -/
structure RSt (s : HS) (r : Nat) (R : GG) (Lv Av : HV) (o : Option DD) : Prop where
  at_ : s r = some (.cells (gC R Lv Av o))
  l : RowV s 5 Lv R.l.length (rows gmC R.l)
  lr : accId Lv ≠ some r
  av : (R.all = [] ∧ Av = nilV) ∨ Av = rowL topC 2 R.all
  sh : o.getD [] = R.shares
/-- All else is kept. -/
def Kept (s t : HS) (r : Nat) (Lv Lv' : HV) : Prop := ∀ k ob, k ≠ r → accId Lv ≠ some k → s k = some ob → t k = some ob ∧ accId Lv' ≠ some k
theorem Kept.refl (s : HS) (r : Nat) (Lv : HV) : Kept s s r Lv Lv := fun k ob h1 h2 h3 => ⟨h3, h2⟩
theorem Kept.trans {s t u : HS} {r : Nat} {L1 L2 L3 : HV} (h : Kept s t r L1 L2) (k : Kept t u r L2 L3) : Kept s u r L1 L3 := fun x ob h1 h2 h3 =>
  let ⟨h4, h5⟩ := h x ob h1 h2 h3
  k x ob h1 h5 h4
theorem Kept.le {s t : HS} {r : Nat} {L : HV} (h : HS.le s t) : Kept s t r L L := fun x ob h1 h2 h3 => ⟨h _ _ h3, h2⟩
theorem gmC_len (m : GM) : (gmC m).length = 5 := rfl
theorem RowV.keepq {s t : HS} {sz : Nat} {A : HV} {n : Nat} {cs : List HV} (h : RowV s sz A n cs) (hk : ∀ q ob, accId A = some q → s q = some ob → t q = some ob) : RowV t sz A n cs := by
  rcases h with h | ⟨q, f, rfl, h2, h3⟩
  · exact .inl h
  · exact .inr ⟨q, f, rfl, hk q _ rfl h2, h3⟩
section
variable {s : HS} {r : Nat} {R : GG} {Lv Av : HV} {o : Option DD}
theorem RSt.ld (h : RSt s r R Lv Av o) (k : Nat) : vLoad s (.ptr r k) 1 false = (gC R Lv Av o)[k]? := load_cell k 1 h.at_
/-- The group's own fields are written. -/
theorem RSt.put (h : RSt s r R Lv Av o) (R' : GG) (Av' : HV) (o' : Option DD) (hl : R'.l = R.l) (ha : (R'.all = [] ∧ Av' = nilV) ∨ Av' = rowL topC 2 R'.all) (ho : o'.getD [] = R'.shares) : RSt (s.set r (.cells (gC R' Lv Av' o'))) r R' Lv Av' o' ∧ Kept s (s.set r (.cells (gC R' Lv Av' o'))) r Lv Lv :=
  ⟨⟨set_at _ _ _, by rw [hl]; exact h.l.keepq fun q ob hq hs => by rw [set_ne _ _ (fun e => h.lr (by rw [← e]; exact hq))]; exact hs, h.lr, ha, ho⟩, fun k ob h1 h2 h3 => ⟨by rw [set_ne _ _ h1]; exact h3, h2⟩⟩
def GG.emptyR (g : GG) : GG := { g with state := 1, shares := [] }
theorem empty57 (h : RSt s r R Lv Av o) : HC Tryz.prog 57 [.ptr r 0] s (fun v t => RSt t r R.emptyR Lv Av none ∧ Kept s t r Lv Lv) := by
  refine HC57 ?_
  unfold c57
  simp only [hvNil, hvFld, bindO]
  refine store1 h.at_ (by simp [gC]) (hc_int _ _) (ho_int _ _) rfl ?_
  refine store1 (set_at _ _ _) (by simp [gC]) (hc_rowV shE 2 none) (ho_rowV shE 2 none) rfl ?_
  rw [set_set]
  exact h.put R.emptyR Av none rfl h.av rfl
theorem set48 (h : RSt s r R Lv Av o) (hl : R.l.length ≤ 1000000) : HC Tryz.prog 48 [.ptr r 0] s (fun v t => ∃ Lv', RSt t r R Lv' Av o ∧ Kept s t r Lv Lv') := by
  refine HC48 ?_
  unfold c48
  refine hBS0 fun id hid => ?_
  have hle := le_set_new (.cells ([] : List HV)) (le_refl' s) hid
  have hld : vLoad (s.set id (.cells [])) (.ptr r 8) 1 false = some Lv := load_cell 8 1 (hle _ _ h.at_)
  simp only [hvNil, hvFld, bindO, hld]
  refine app_empty (b := s) hle hid (set_at _ _ _) (h.l.le hle).lc h.l.llen h.l.cl ⟨by omega, by omega⟩ fun A' t' k1 k2 => ?_
  have hA' : ∀ k ob, s k = some ob → accId A' ≠ some k := fun k ob hk e => by
    rcases k1 with (⟨rfl, -⟩ | ⟨q, f, h1, rfl, -⟩) | ⟨-, -, q, h1, rfl, -⟩
    · cases e
    · injection e with e; rw [← e, h1] at hk; cases hk
    · injection e with e; rw [← e, h1] at hk; cases hk
  refine store1 (k2 _ _ h.at_) (by simp [gC]) (acc0_one k1).2 (acc0_one k1).1 rfl ?_
  rw [show (gC R Lv Av o).set 8 A' = gC R A' Av o from rfl]
  have hr := hA' r _ h.at_
  refine ⟨A', ⟨set_at _ _ _, (acc0_row k1).keepq fun q ob hq hs => by rw [set_ne _ _ (fun e => hr (by rw [← e]; exact hq))]; exact hs, hr, h.av, h.sh⟩, fun k ob h1 h2 h3 => ⟨by rw [set_ne _ _ h1]; exact k2 _ _ h3, hA' k ob h3⟩⟩
theorem RSt.len (h : RSt s r R Lv Av o) : vLenT (Tryz.prog.underlying 55) s Lv = some (.lit (.int .i64 (R.l.length : Int))) := h.l.len _ s
/-- A member, read. -/
theorem RSt.mem (h : RSt s r R Lv Av o) {i : Nat} (hi : i < R.l.length) : ∃ q, vIdx 5 Lv (.lit (.int .i64 (i : Int))) = some (.ptr q (i * 5)) ∧ vLoad s (.ptr q (i * 5)) 5 true = some (.agg (gmC (R.l.getD i gm0))) ∧ ∀ j, j < 5 → ∀ m, vLoad s (.ptr q (i * 5 + j)) m false = (gmC (R.l.getD i gm0))[j]? := by
  obtain ⟨q, h1, h2⟩ := h.l.at_ gmC_len gm0 hi
  exact ⟨q, h1, h2 s (le_refl' s)⟩
theorem at47 (h : RSt s r R Lv Av o) (hl : R.l.length ≤ 1000000) (id : By) : HC Tryz.prog 47 [.ptr r 0, strV id] s (fun v t => t = s ∧ v = .lit (.int .i64 (match R.at_ id with | some i => (i : Int) | none => -1))) := by
  refine HC47 ?_
  unfold c47
  refine HLoop.ghost (σ := Nat) (fun i => [.lit (.int .i64 (i : Int))]) (fun i t => i ≤ R.l.length ∧ t = s ∧ ∀ j, j < i → (R.l.getD j gm0).id ≠ id) (fun i => R.l.length - i) 0 rfl ⟨Nat.zero_le _, rfl, fun j hj => by omega⟩ ?_
  rintro i t K ⟨h1, rfl, h3⟩ hK
  simp only [List.headD_cons, hvNil, hvFld, bindO, h.ld, gC, List.getElem?_cons_succ, List.getElem?_cons_zero, h.len, lss_i]
  by_cases hlt : i < R.l.length
  · obtain ⟨q, x1, -, x3⟩ := h.mem hlt
    have x4 := x3 0 (by omega) 1
    simp only [hlt, decide_true, hcond, hvNil, hvFld, h.ld, gC, List.getElem?_cons_succ, List.getElem?_cons_zero, x1, vField, x4, gmC, eql_s]
    by_cases he : (R.l.getD i gm0).id = id
    · simp only [he, decide_true]
      refine ⟨trivial, ?_⟩
      have : R.at_ id = some i := by
        unfold GG.at_
        rw [List.findIdx?_eq_some_iff_getElem]
        refine ⟨hlt, by rw [← getD_get gm0 _ hlt, he]; exact decide_eq_true rfl, fun j hj => ?_⟩
        have := h3 j hj
        rw [getD_get gm0 _ (by omega : j < R.l.length)] at this
        simpa using this
      rw [this]
    · simp only [he, decide_false, inc_i hlt (by omega)]
      refine hK (i + 1) _ _ rfl ⟨hlt, rfl, fun j hj => ?_⟩ (by omega)
      by_cases e : j = i
      · rw [e]; exact he
      · exact h3 j (by omega)
  · obtain rfl : i = R.l.length := by omega
    simp only [hlt, decide_false, hcond]
    refine ⟨trivial, ?_⟩
    have : R.at_ id = none := by
      unfold GG.at_
      rw [List.findIdx?_eq_none_iff]
      intro m hm
      obtain ⟨j, hj, rfl⟩ := List.mem_iff_getElem.1 hm
      have := h3 j hj
      rw [getD_get gm0 _ hj] at this
      simpa using this
    rw [this]
theorem ready52 (h : RSt s r R Lv Av o) (hl : R.l.length ≤ 1000000) : HC Tryz.prog 52 [.ptr r 0] s (fun v t => t = s ∧ v = .lit (.bool (R.l.all (·.joined)))) := by
  refine HC52 ?_
  unfold c52
  refine HLoop.ghost (σ := Nat) (fun i => [.lit (.int .i64 (i : Int))]) (fun i t => i ≤ R.l.length ∧ t = s ∧ ∀ j, j < i → (R.l.getD j gm0).joined = true) (fun i => R.l.length - i) 0 rfl ⟨Nat.zero_le _, rfl, fun j hj => by omega⟩ ?_
  rintro i t K ⟨h1, rfl, h3⟩ hK
  simp only [List.headD_cons, hvNil, hvFld, bindO, h.ld, gC, List.getElem?_cons_succ, List.getElem?_cons_zero, h.len, lss_i]
  by_cases hlt : i < R.l.length
  · obtain ⟨q, x1, -, x3⟩ := h.mem hlt
    have x4 := x3 3 (by omega) 1
    have hm := getD_memD gm0 hlt
    simp only [hlt, decide_true, hcond, hvNil, hvFld, h.ld, gC, List.getElem?_cons_succ, List.getElem?_cons_zero, x1, vField, x4, gmC, vUn]
    cases hj : (R.l.getD i gm0).joined with
    | false =>
      simp only [Bool.not_false]
      refine ⟨trivial, ?_⟩
      have : R.l.all (·.joined) = false := by
        rw [List.all_eq_false]
        exact ⟨_, hm, by rw [hj]; simp⟩
      rw [this]
    | true =>
      simp only [Bool.not_true, inc_i hlt (by omega)]
      refine hK (i + 1) _ _ rfl ⟨hlt, rfl, fun j hj' => ?_⟩ (by omega)
      by_cases e : j = i
      · rw [e]; exact hj
      · exact h3 j (by omega)
  · obtain rfl : i = R.l.length := by omega
    simp only [hlt, decide_false, hcond]
    refine ⟨trivial, ?_⟩
    have : R.l.all (·.joined) = true := by
      rw [List.all_eq_true]
      intro m hm
      obtain ⟨j, hj, rfl⟩ := List.mem_iff_getElem.1 hm
      have := h3 j hj
      rw [getD_get gm0 _ hj] at this
      exact this
    rw [this]
end
end Go.Proofs.YtkcgokkgefgcjaaGreatDoor.AS
end
section
namespace Go.Proofs.YtkcgokkgefgcjaaGreatDoor.AS
open Go.Proofs.YtkcgokkgefgcjaaGreatDoor.H Go.Proofs.YtkcgokkgefgcjaaGreatDoor.G0
set_option linter.unusedVariables false
set_option linter.unusedSimpArgs false
set_option maxRecDepth 100000
namespace GG
def keep (g : GG) (p : GM → Bool) : GG := { g with l := g.l.filter p }
def prepareR (g : GG) : GG := { g with state := 2, since := g.now, shares := [], l := g.l.map fun m => { m with joined := false } }
def againR (g : GG) : GG := if g.l = [] then g.emptyR else g.prepareR
end GG
section
variable {s : HS} {r : Nat} {R : GG} {Lv Av : HV} {o : Option DD}
def kindP (R : GG) (k : Int) (m : GM) : Bool := if k = 1 then m.joined else if k = 2 then m.synced else decide (R.now - m.heard ≤ R.session)
theorem keep72 (h : RSt s r R Lv Av o) (hl : R.l.length ≤ 1000000) {k : Int} (hk : k = 1 ∨ k = 2 ∨ k = 3) (hn : -4503599627370496 ≤ R.now ∧ R.now ≤ 4503599627370496) (hh : ∀ m ∈ R.l, 0 ≤ m.heard ∧ m.heard ≤ 1125899906842624) :
    HC Tryz.prog 72 [.ptr r 0, .lit (.int .i64 k)] s (fun v t => ∃ Lv', RSt t r (R.keep (kindP R k)) Lv' Av o ∧ Kept s t r Lv Lv' ∧ v = .lit (.bool (decide ((R.keep (kindP R k)).l.length < R.l.length)))) := by
  refine HC72 ?_
  unfold c72
  refine HLoop.ghost (σ := HV × Nat) (fun x => [x.1, .lit (.int .i64 (x.2 : Int))]) (fun x t => x.2 ≤ R.l.length ∧ HS.le s t ∧ Acc s t 5 x.1 ((R.l.take x.2).filter (kindP R k)).length (rows gmC ((R.l.take x.2).filter (kindP R k)))) (fun x => R.l.length - x.2) (nilV, 0) rfl ⟨Nat.zero_le _, le_refl' s, Acc.nil _ _ _⟩ ?_
  rintro ⟨A, i⟩ t K ⟨h1, h2, h3⟩ hK
  simp only at h1 h2 h3
  have ht : ∀ k, vLoad t (.ptr r k) 1 false = (gC R Lv Av o)[k]? := fun k => load_cell k 1 (h2 _ _ h.at_)
  have hlen : vLenT (Tryz.prog.underlying 55) t Lv = some (.lit (.int .i64 (R.l.length : Int))) := h.l.len _ t
  simp only [List.headD_cons, List.tail_cons, hvNil, hvFld, bindO, ht, gC, List.getElem?_cons_succ, List.getElem?_cons_zero, hlen, lss_i]
  by_cases hlt : i < R.l.length
  · obtain ⟨q, x1, hq⟩ := h.l.at_ gmC_len gm0 hlt
    obtain ⟨x2, -⟩ := hq t h2
    have hm := hh _ (getD_memD gm0 hlt)
    have htk := take_succ' gm0 R.l hlt
    simp only [hlt, decide_true, hcond]
    refine Join.of (fun xs u => ∃ A', xs = [A'] ∧ HS.le s u ∧ Acc s u 5 A' ((R.l.take (i + 1)).filter (kindP R k)).length (rows gmC ((R.l.take (i + 1)).filter (kindP R k)))) ?_ ?_
    · rintro _ u ⟨A', rfl, g1, g2⟩
      simp only [List.headD_cons, inc_i hlt (by omega)]
      exact hK (A', i + 1) _ _ rfl ⟨hlt, g1, g2⟩ (by show R.l.length - (i + 1) < R.l.length - i; omega)
    · intro K9 hK9
      simp only [hvNil, hvFld, ht, gC, List.getElem?_cons_succ, List.getElem?_cons_zero, x1, x2]
      rw [htk] at hK9
      simp only [List.filter_append] at hK9
      generalize R.l.getD i gm0 = m at *
      refine new_store rfl rfl (fun y hy => by
        simp only [gmC, List.mem_cons, List.not_mem_nil, or_false] at hy
        rcases hy with rfl | rfl | rfl | rfl | rfl <;> rfl) fun X hX => ?_
      have hle := le_set_new (.cells (gmC m)) h2 hX
      have g4 := h3.new (.cells (gmC m)) hX
      have lX : ∀ k, vLoad (t.set X (.cells (gmC m))) (.ptr X (0 + k)) 1 false = (gmC m)[k]? := fun k => by rw [Nat.zero_add]; exact load_cell k 1 (set_at _ _ _)
      have lA : vLoad (t.set X (.cells (gmC m))) (.ptr X 0) 5 true = some (.agg (gmC m)) := load_all (gmC_len m) (set_at _ _ _)
      have lr : ∀ k, vLoad (t.set X (.cells (gmC m))) (.ptr r k) 1 false = (gC R Lv Av o)[k]? := fun k => load_cell k 1 (hle _ _ h.at_)
      generalize t.set X (.cells (gmC m)) = u at *
      refine Join.of (fun xs v => v = u ∧ xs = [.lit (.bool (kindP R k m))]) ?_ ?_
      · rintro _ v ⟨rfl, rfl⟩
        simp only [List.headD_cons]
        cases hp : kindP R k m with
        | true =>
          simp only [lA]
          refine g4.app1 hle (hc_agg _) rfl rfl ⟨by have := List.length_filter_le (kindP R k) (R.l.take i); rw [List.length_take] at this; omega, by have := List.length_filter_le (kindP R k) (R.l.take i); rw [List.length_take] at this; omega⟩ fun A' w k1 k2 k3 => ?_
          refine hK9 _ _ ⟨A', rfl, k2, ?_⟩
          rw [show [m].filter (kindP R k) = [m] from by simp [hp], List.length_append, rows_app, rows_one]
          exact k1
        | false =>
          simp only
          refine hK9 _ _ ⟨A, rfl, hle, ?_⟩
          rw [show [m].filter (kindP R k) = [] from by simp [hp], List.append_nil]
          exact g4
      · intro K20 hK20
        unfold kindP at hK20
        rcases hk with rfl | rfl | rfl
        · simp only [eql_n, decide_true, vField, lX, gmC, List.getElem?_cons_succ, List.getElem?_cons_zero]
          simp only [if_true] at hK20
          cases hj : m.joined with
          | true => simp only; exact hK20 _ _ ⟨rfl, by rw [hj]⟩
          | false =>
            simp only [show decide ((1 : Int) = 2) = false from rfl, show decide ((1 : Int) = 3) = false from rfl]
            exact hK20 _ _ ⟨rfl, by rw [hj]⟩
        · simp only [eql_n, show decide ((2 : Int) = 1) = false from rfl, show decide ((2 : Int) = 2) = true from rfl, vField, lX, gmC, List.getElem?_cons_succ, List.getElem?_cons_zero]
          rw [if_neg (by decide), if_pos rfl] at hK20
          cases hj : m.synced with
          | true => simp only; exact hK20 _ _ ⟨rfl, by rw [hj]⟩
          | false =>
            simp only [show decide ((2 : Int) = 3) = false from rfl]
            exact hK20 _ _ ⟨rfl, by rw [hj]⟩
        · simp only [eql_n, show decide ((3 : Int) = 1) = false from rfl, show decide ((3 : Int) = 2) = false from rfl, show decide ((3 : Int) = 3) = true from rfl, hvNil, hvFld, vField, lr, lX, gC, gmC, List.getElem?_cons_succ, List.getElem?_cons_zero]
          rw [if_neg (by decide), if_neg (by decide)] at hK20
          rw [sub_n (by omega) (by omega)]
          simp only [leq_n]
          exact hK20 _ _ ⟨rfl, rfl⟩
  · obtain rfl : i = R.l.length := by omega
    rw [List.take_length] at h3
    have hA : vLenT (Tryz.prog.underlying 55) t A = some (.lit (.int .i64 (((R.l.filter (kindP R k)).length : Nat) : Int))) := (acc_row h3).len _ t
    simp only [hlt, decide_false, hcond, hA, hvNil, hvFld, ht, gC, List.getElem?_cons_succ, List.getElem?_cons_zero, hlen, lss_i]
    have hA' : ∀ k ob, s k = some ob → accId A ≠ some k := fun k ob hk e => by
      rcases h3 with ⟨rfl, -⟩ | ⟨q, f, g1, rfl, -⟩
      · cases e
      · injection e with e; rw [← e, g1] at hk; cases hk
    refine store1 (h2 _ _ h.at_) (show 8 < (gC R Lv Av o).length from by simp [gC]) (acc0_one (.inl h3)).2 (acc0_one (.inl h3)).1 rfl ?_
    have hr := hA' r _ h.at_
    refine ⟨A, ⟨set_at _ _ _, (acc_row h3).keepq fun q ob hq hs => by rw [set_ne _ _ (fun e => hr (by rw [← e]; exact hq))]; exact hs, hr, h.av, h.sh⟩, fun k ob h1 h2' h3' => ⟨by rw [set_ne _ _ h1]; exact h2 _ _ h3', hA' k ob h3'⟩, rfl⟩
end
end Go.Proofs.YtkcgokkgefgcjaaGreatDoor.AS
end
section
namespace Go.Proofs.YtkcgokkgefgcjaaGreatDoor.AS
open Go.Proofs.YtkcgokkgefgcjaaGreatDoor.H Go.Proofs.YtkcgokkgefgcjaaGreatDoor.G0
set_option linter.unusedVariables false
set_option linter.unusedSimpArgs false
set_option maxRecDepth 100000
section
variable {s : HS} {r : Nat} {R : GG} {Lv Av : HV} {o : Option DD}
theorem rows_set1 {α : Type} {enc : α → List HV} {sz : Nat} (he : ∀ x, (enc x).length = sz) (z x : α) {j : Nat} (hj : j < sz) {v : HV} : ∀ (l : List α) {i : Nat}, i < l.length → (enc (l.getD i z)).set j v = enc x → (rows enc l).set (i * sz + j) v = rows enc (l.set i x)
  | [], i, h, _ => by simp at h
  | y :: l, 0, h, hx => by
    rw [rows_cons, Nat.zero_mul, Nat.zero_add, List.set_append_left _ _ (by rw [he]; exact hj), List.set_cons_zero, rows_cons]
    have : (enc y).set j v = enc x := hx
    rw [this]
  | y :: l, i + 1, h, hx => by
    rw [rows_cons, List.set_cons_succ, rows_cons, List.set_append_right _ _ (by rw [he, Nat.succ_mul]; omega)]
    congr 1
    have e : (i + 1) * sz + j - (enc y).length = i * sz + j := by rw [he, Nat.succ_mul]; omega
    rw [e]
    exact rows_set1 he z x hj l (by simpa using h) (by simpa using hx)
/-- A member's cell is written. -/
theorem RSt.mput (h : RSt s r R Lv Av o) {i : Nat} (hi : i < R.l.length) {j : Nat} (hj : j < 5) {v : HV} (hv : hcells v = some [v]) (ho : hone v = true) (m : GM) (hm : (gmC (R.l.getD i gm0)).set j v = gmC m) :
    ∃ q, vIdx 5 Lv (.lit (.int .i64 (i : Int))) = some (.ptr q (i * 5)) ∧ ∃ t, RSt t r { R with l := R.l.set i m } Lv Av o ∧ Kept s t r Lv Lv ∧ ∀ K : HS → Prop, K t → hStore s (.ptr q (i * 5 + j)) v 1 K := by
  have hl := h.l
  have hlr := h.lr
  rcases hl with ⟨-, -, h0⟩ | ⟨q, f, rfl, h2, h3⟩
  · omega
  have hqr : q ≠ r := fun e => hlr (by rw [e]; rfl)
  refine ⟨q, by rw [idx_view .i64 hi, Nat.zero_add], s.set q (.cells (rows gmC (R.l.set i m))), ⟨by rw [set_ne _ _ (Ne.symm hqr)]; exact h.at_, ?_, hlr, h.av, h.sh⟩, fun k ob h1 h2' h3' => ⟨by rw [set_ne _ _ (fun e => h2' (by rw [e]; rfl))]; exact h3', h2'⟩, fun K hK => ?_⟩
  · refine .inr ⟨q, f, ?_, set_at _ _ _, by rw [rows_len gmC_len]⟩
    show HV.view q 0 5 R.l.length f = .view q 0 5 (R.l.set i m).length f
    rw [List.length_set]
  · refine store1 h2 (by rw [rows_len gmC_len]; omega) hv ho rfl ?_
    rw [rows_set1 gmC_len gm0 m hj R.l hi hm]
    exact hK
def mapL (f : GM → GM) (i : Nat) (l : List GM) : List GM := (l.take i).map f ++ l.drop i
theorem mapL_len (f : GM → GM) (i : Nat) (l : List GM) : (mapL f i l).length = l.length := by simp [mapL]; omega
theorem mapL_at (f : GM → GM) {i : Nat} (l : List GM) (hi : i < l.length) : (mapL f i l).getD i gm0 = l.getD i gm0 := by
  unfold mapL
  rw [List.getD, List.getElem?_append_right (by simp; omega)]
  simp only [List.length_map, List.length_take, Nat.min_eq_left (Nat.le_of_lt hi), Nat.sub_self, List.getElem?_drop, Nat.add_zero]
  rfl
theorem mapL_succ (f : GM → GM) {i : Nat} (l : List GM) (hi : i < l.length) : mapL f (i + 1) l = (mapL f i l).set i (f (l.getD i gm0)) := by
  unfold mapL
  rw [take_succ' gm0 l hi, List.map_append, List.set_append_right _ _ (by simp; omega)]
  simp only [List.length_map, List.length_take, Nat.min_eq_left (Nat.le_of_lt hi), Nat.sub_self]
  rw [drop_cons' gm0 l hi, List.set_cons_zero, List.append_assoc]
  rfl
theorem mapL_all (f : GM → GM) (l : List GM) : mapL f l.length l = l.map f := by simp [mapL]
theorem mapL_zero (f : GM → GM) (l : List GM) : mapL f 0 l = l := by simp [mapL]
theorem prepare51 (h : RSt s r R Lv Av o) (hl : R.l.length ≤ 1000000) : HC Tryz.prog 51 [.ptr r 0] s (fun v t => ∃ Lv', RSt t r R.prepareR Lv' Av none ∧ Kept s t r Lv Lv') := by
  refine HC51 ?_
  unfold c51
  simp only [hvNil, hvFld, bindO]
  refine store1 h.at_ (by simp [gC]) (hc_int _ _) (ho_int _ _) rfl ?_
  have l6 : vLoad (s.set r (.cells ((gC R Lv Av o).set 3 (.lit (.int .i64 2))))) (.ptr r 6) 1 false = some (.lit (.int .i64 R.now)) := load_cell 6 1 (set_at _ _ _)
  simp only [l6]
  refine store1 (set_at _ _ _) (by simp [gC]) (hc_int _ _) (ho_int _ _) rfl ?_
  rw [set_set]
  refine store1 (set_at _ _ _) (by simp [gC]) (hc_rowV shE 2 none) (ho_rowV shE 2 none) rfl ?_
  rw [set_set]
  obtain ⟨h1, k1⟩ := h.put { R with state := 2, since := R.now, shares := [] } Av none rfl h.av rfl
  rw [show (((gC R Lv Av o).set 3 (.lit (.int .i64 2))).set 7 (.lit (.int .i64 R.now))).set 10 (.lit (.slice none 0 0)) = gC { R with state := 2, since := R.now, shares := [] } Lv Av none from rfl]
  generalize s.set r (.cells (gC { R with state := 2, since := R.now, shares := [] } Lv Av none)) = s1 at *
  refine (set48 h1 hl).mono ?_
  rintro _ t ⟨Lv', h2, k2⟩
  refine HLoop.ghost (σ := Nat) (fun i => [.lit (.int .i64 (i : Int))]) (fun i u => i ≤ R.l.length ∧ RSt u r { R with state := 2, since := R.now, shares := [], l := mapL (fun m => { m with joined := false }) i R.l } Lv' Av none ∧ Kept s u r Lv Lv') (fun i => R.l.length - i) 0 rfl ⟨Nat.zero_le _, by rw [mapL_zero]; exact h2, k1.trans k2⟩ ?_
  rintro i u K ⟨hi, hu, ku⟩ hK
  have hln := mapL_len (fun m : GM => ({ m with joined := false } : GM)) i R.l
  have hlen : vLenT (Tryz.prog.underlying 55) u Lv' = some (.lit (.int .i64 (R.l.length : Int))) := by rw [← hln]; exact hu.len
  simp only [List.headD_cons, hvNil, hvFld, bindO, hu.ld, gC, List.getElem?_cons_succ, List.getElem?_cons_zero, hlen, lss_i]
  by_cases hlt : i < R.l.length
  · have hat := mapL_at (fun m : GM => ({ m with joined := false } : GM)) R.l hlt
    obtain ⟨q, x1, w, x2, x3, x4⟩ := hu.mput (i := i) (by show i < (mapL _ i R.l).length; rw [hln]; exact hlt) (j := 3) (by omega) (v := .lit (.bool false)) (hc_bool _) (ho_bool _) { (R.l.getD i gm0) with joined := false } (by
      show (gmC ((mapL _ i R.l).getD i gm0)).set 3 _ = _
      rw [hat]; rfl)
    simp only [hlt, decide_true, hcond, hvNil, hvFld, hu.ld, gC, List.getElem?_cons_succ, List.getElem?_cons_zero, x1, vField]
    refine x4 _ ?_
    simp only [inc_i hlt (by omega)]
    refine hK (i + 1) _ _ rfl ⟨hlt, ?_, ku.trans x3⟩ (by omega)
    rw [mapL_succ _ _ hlt]
    exact x2
  · obtain rfl : i = R.l.length := by omega
    simp only [hlt, decide_false, hcond]
    refine ⟨Lv', ?_, ku⟩
    rw [mapL_all] at hu
    exact hu
theorem again73 (h : RSt s r R Lv Av o) (hl : R.l.length ≤ 1000000) : HC Tryz.prog 73 [.ptr r 0] s (fun v t => ∃ Lv' o', RSt t r R.againR Lv' Av o' ∧ Kept s t r Lv Lv') := by
  refine HC73 ?_
  unfold c73
  simp only [hvNil, hvFld, bindO, h.ld, gC, List.getElem?_cons_succ, List.getElem?_cons_zero, h.len, eql_n]
  unfold GG.againR
  by_cases hn : R.l = []
  · rw [show decide ((R.l.length : Int) = 0) = true from by rw [hn]; rfl, if_pos hn]
    simp only [hcond]
    refine (empty57 h).mono ?_
    rintro _ t ⟨h1, k1⟩
    exact ⟨_, _, h1, k1⟩
  · have : R.l.length ≠ 0 := fun e => hn (List.eq_nil_of_length_eq_zero e)
    rw [show decide ((R.l.length : Int) = 0) = false from by rw [decide_eq_false_iff_not]; omega, if_neg hn]
    simp only [hcond]
    refine (prepare51 h hl).mono ?_
    rintro _ t ⟨Lv', h1, k1⟩
    exact ⟨_, _, h1, k1⟩
end
end Go.Proofs.YtkcgokkgefgcjaaGreatDoor.AS
end
section
namespace Go.Proofs.YtkcgokkgefgcjaaGreatDoor.AS
open Go.Proofs.YtkcgokkgefgcjaaGreatDoor.H Go.Proofs.YtkcgokkgefgcjaaGreatDoor.G0
set_option linter.unusedVariables false
set_option linter.unusedSimpArgs false
set_option maxRecDepth 100000
noncomputable def GG.formR (g : GG) : GG :=
  let g1 := g.keep fun m => m.joined
  if g1.l = [] then g1.emptyR else
  { g1 with gen := g1.gen + 1, state := 3, since := g1.now, l := g1.l.map fun m => { m with synced := false }, shares := sharesOf g1.round (g1.l.map fun m => (m.id, m.tp)) g1.all }
section
variable {s : HS} {r : Nat} {R : GG} {Lv Av : HV} {o : Option DD}
theorem keep_joined (R : GG) : R.keep (kindP R 1) = R.keep fun m => m.joined := by
  unfold GG.keep
  congr 1
theorem RSt.del (h : RSt s r R Lv Av o) {q : Nat} (hr : q ≠ r) (hl : accId Lv ≠ some q) : RSt (s.del q) r R Lv Av o :=
  ⟨by rw [del_ne _ (Ne.symm hr)]; exact h.at_, h.l.keepq fun x ob hx hs => by rw [del_ne _ (fun e => hl (by rw [← e]; exact hx))]; exact hs, h.lr, h.av, h.sh⟩
theorem av_up {s : HS} (h : (R.all = [] ∧ Av = nilV) ∨ Av = rowL topC 2 R.all) (x : HV) : UpL [x, Av] s [x, rowL topC 2 R.all] s := by
  rcases h with ⟨e, rfl⟩ | rfl
  · rw [e]
    exact UpL.nilAt (ys := [x]) (zs := []) 2
  · exact UpL.refl _ _
theorem form53 (h : RSt s r R Lv Av o) (hl : R.l.length ≤ 1000000) (hn : -4503599627370496 ≤ R.now ∧ R.now ≤ 4503599627370496) (hh : ∀ m ∈ R.l, 0 ≤ m.heard ∧ m.heard ≤ 1125899906842624) (htp : ∀ m ∈ R.l, m.tp.length ≤ 1000000) (hal : R.all.length ≤ 1000) (hg : -9223372036854775808 ≤ R.gen ∧ R.gen < 9223372036854775807) :
    HC Tryz.prog 53 [.ptr r 0] s (fun v t => ∃ Lv' o', RSt t r R.formR Lv' Av o' ∧ Kept s t r Lv Lv') := by
  refine HC53 ?_
  unfold c53
  refine (keep72 h hl (k := 1) (.inl rfl) hn hh).mono ?_
  rintro _ t ⟨L1, h1, k1, rfl⟩
  rw [keep_joined] at h1
  have hmem1 : ∀ m ∈ (R.keep fun m => m.joined).l, m ∈ R.l := fun m hm => (List.mem_filter.1 hm).1
  have hl1 : (R.keep fun m => m.joined).l.length ≤ 1000000 := Nat.le_trans (List.length_filter_le _ _) hl
  have e1 : (R.keep fun m => m.joined).all = R.all ∧ (R.keep fun m => m.joined).gen = R.gen := ⟨rfl, rfl⟩
  unfold GG.formR
  simp only
  generalize (R.keep fun m => m.joined) = R1 at *
  obtain ⟨e1a, e1g⟩ := e1
  simp only [hvNil, hvFld, bindO, h1.ld, gC, List.getElem?_cons_succ, List.getElem?_cons_zero, h1.len, eql_n]
  by_cases hne : R1.l = []
  · rw [show decide ((R1.l.length : Int) = 0) = true from by rw [hne]; rfl, if_pos hne]
    simp only [hcond]
    refine (empty57 h1).mono ?_
    rintro _ u ⟨h2, k2⟩
    exact ⟨_, _, h2, k1.trans k2⟩
  have hpos : R1.l.length ≠ 0 := fun e => hne (List.eq_nil_of_length_eq_zero e)
  rw [show decide ((R1.l.length : Int) = 0) = false from by rw [decide_eq_false_iff_not]; omega, if_neg hne]
  simp only [hcond]
  rw [add_n (a := R1.gen) (b := 1) (by omega) (by omega)]
  refine store1 h1.at_ (by simp [gC]) (hc_int _ _) (ho_int _ _) rfl ?_
  refine store1 (set_at _ _ _) (by simp [gC]) (hc_int _ _) (ho_int _ _) rfl ?_
  rw [set_set]
  have l6 : vLoad (t.set r (.cells (((gC R1 L1 Av o).set 4 (.lit (.int .i64 (R1.gen + 1)))).set 3 (.lit (.int .i64 3))))) (.ptr r 6) 1 false = some (.lit (.int .i64 R1.now)) := load_cell 6 1 (set_at _ _ _)
  simp only [l6]
  refine store1 (set_at _ _ _) (by simp [gC]) (hc_int _ _) (ho_int _ _) rfl ?_
  rw [set_set]
  obtain ⟨h2, k2⟩ := h1.put { R1 with gen := R1.gen + 1, state := 3, since := R1.now } Av o rfl h1.av h1.sh
  rw [show (((gC R1 L1 Av o).set 4 (.lit (.int .i64 (R1.gen + 1)))).set 3 (.lit (.int .i64 3))).set 7 (.lit (.int .i64 R1.now)) = gC { R1 with gen := R1.gen + 1, state := 3, since := R1.now } L1 Av o from rfl]
  generalize t.set r (.cells (gC { R1 with gen := R1.gen + 1, state := 3, since := R1.now } L1 Av o)) = s2 at *
  refine (set48 h2 hl1).mono ?_
  rintro _ t3 ⟨Lv', h3, k3⟩
  have k03 : Kept s t3 r Lv Lv' := (k1.trans k2).trans k3
  -- the members, one by one
  refine HLoop.ghost (σ := HV × Nat) (fun x => [x.1, .lit (.int .i64 (x.2 : Int))]) (fun x u => x.2 ≤ R1.l.length ∧ RSt u r { R1 with gen := R1.gen + 1, state := 3, since := R1.now, l := mapL (fun m => { m with synced := false }) x.2 R1.l } Lv' Av o ∧ Kept s u r Lv Lv' ∧
    Acc (fun _ => none) u 2 x.1 x.2 (rows memC ((R1.l.take x.2).map fun m => (⟨m.id, some m.tp⟩ : Mem))) ∧ (∀ k, (k = r ∨ accId Lv' = some k ∨ (k ≠ r ∧ accId Lv ≠ some k ∧ ∃ ob, s k = some ob)) → accId x.1 ≠ some k)) (fun x => R1.l.length - x.2) (nilV, 0) rfl
    ⟨Nat.zero_le _, by rw [mapL_zero]; exact h3, k03, Acc.nil _ _ _, (fun k _ => by rintro ⟨⟩)⟩ ?_
  rintro ⟨A, i⟩ u K ⟨hi, hu, ku, hA, hsep⟩ hK
  simp only at hi hu hA hsep
  have hln := mapL_len (fun m : GM => ({ m with synced := false } : GM)) i R1.l
  have hlen : vLenT (Tryz.prog.underlying 55) u Lv' = some (.lit (.int .i64 (R1.l.length : Int))) := by rw [← hln]; exact hu.len
  simp only [List.headD_cons, List.tail_cons, hvNil, hvFld, bindO, hu.ld, gC, List.getElem?_cons_succ, List.getElem?_cons_zero, hlen, lss_i]
  by_cases hlt : i < R1.l.length
  · have hat := mapL_at (fun m : GM => ({ m with synced := false } : GM)) R1.l hlt
    have htk := take_succ' gm0 R1.l hlt
    obtain ⟨q, x1, w, x2, x3, x4⟩ := hu.mput (i := i) (by show i < (mapL _ i R1.l).length; rw [hln]; exact hlt) (j := 4) (by omega) (v := .lit (.bool false)) (hc_bool _) (ho_bool _) { (R1.l.getD i gm0) with synced := false } (by
      show (gmC ((mapL _ i R1.l).getD i gm0)).set 4 _ = _
      rw [hat]; rfl)
    have hms := mapL_succ (fun m : GM => ({ m with synced := false } : GM)) R1.l hlt
    simp only [hlt, decide_true, hcond, hvNil, hvFld, hu.ld, gC, List.getElem?_cons_succ, List.getElem?_cons_zero, x1, vField]
    refine x4 _ ?_
    have hx2 : RSt w r { R1 with gen := R1.gen + 1, state := 3, since := R1.now, l := mapL (fun m => { m with synced := false }) (i + 1) R1.l } Lv' Av o := by rw [hms]; exact x2
    obtain ⟨q2, y1, -, y3⟩ := hx2.mem (i := i) (by show i < (mapL _ (i + 1) R1.l).length; rw [mapL_len]; exact hlt)
    have hgi : (mapL (fun m : GM => ({ m with synced := false } : GM)) (i + 1) R1.l).getD i gm0 = { (R1.l.getD i gm0) with synced := false } := by
      rw [hms, getD_get _ _ (by rw [List.length_set, hln]; exact hlt), List.getElem_set_self]
    have y30 := y3 0 (by omega) 1
    have y31 := y3 1 (by omega) 1
    rw [hgi] at y30 y31
    have hqq : q2 = q := by rw [x1] at y1; injection y1 with y1; injection y1 with y1; exact y1.symm
    subst hqq
    have hA2 : Acc (fun _ => none) w 2 A i (rows memC ((R1.l.take i).map fun m => (⟨m.id, some m.tp⟩ : Mem))) := by
      rcases hA with h0 | ⟨qa, fa, g1, rfl, g3, g4, g5⟩
      · exact .inl h0
      · exact .inr ⟨qa, fa, g1, rfl, (x3 qa _ (fun e => hsep r (.inl rfl) (by rw [e]; rfl)) (fun e => hsep qa (.inr (.inl e)) rfl) g3).1, g4, g5⟩
    have kw := ku.trans x3
    generalize R1.l.getD i gm0 = m at *
    simp only [hvNil, hvFld, hx2.ld, gC, List.getElem?_cons_succ, List.getElem?_cons_zero, x1, vField, y30, y31, gmC]
    rw [show vMk [(0, 1), (1, 1)] [.lit (.string .empty), .lit (.slice none 0 0)] [(0, strV m.id), (1, rowL strC 1 m.tp)] = some (.agg (memC ⟨m.id, some m.tp⟩)) from rfl]
    simp only
    refine hA2.app1 (fun k ob hk => by cases hk) (hc_agg _) rfl rfl ⟨by omega, by omega⟩ fun A' w3 g1 g2 g3 => ?_
    simp only [inc_i hlt (by omega)]
    have hw3 : RSt w3 r { R1 with gen := R1.gen + 1, state := 3, since := R1.now, l := mapL (fun m => { m with synced := false }) (i + 1) R1.l } Lv' Av o :=
      ⟨(g3 r _ (hsep r (.inl rfl)) hx2.at_).1, hx2.l.keepq fun q ob hq hs => (g3 q ob (hsep q (.inr (.inl hq))) hs).1, hx2.lr, hx2.av, hx2.sh⟩
    have kw3 : Kept s w3 r Lv Lv' := fun k ob z1 z2 z3 => ⟨(g3 k ob (hsep k (.inr (.inr ⟨z1, z2, ob, z3⟩))) (kw k ob z1 z2 z3).1).1, (kw k ob z1 z2 z3).2⟩
    refine hK (A', i + 1) _ _ rfl ⟨hlt, hw3, kw3, ?_, fun k hk => ?_⟩ (by show R1.l.length - (i + 1) < R1.l.length - i; omega)
    · show Acc _ w3 2 A' (i + 1) (rows memC ((R1.l.take (i + 1)).map _))
      rw [htk, List.map_append, rows_app]
      exact g1
    · show accId A' ≠ some k
      have hex : ∃ ob, w k = some ob := by
        rcases hk with rfl | hk | ⟨z1, z2, ob, z3⟩
        · exact ⟨_, hx2.at_⟩
        · rcases hx2.l with ⟨e, -⟩ | ⟨q', f', e, e2, -⟩
          · rw [e] at hk; cases hk
          · rw [e] at hk; injection hk with hk; rw [← hk]; exact ⟨_, e2⟩
        · exact ⟨_, (kw k ob z1 z2 z3).1⟩
      obtain ⟨ob, hob⟩ := hex
      exact (g3 k ob (hsep k hk) hob).2
  · obtain rfl : i = R1.l.length := by omega
    rw [List.take_length] at hA
    rw [mapL_all] at hu
    clear hK
    simp only [hlt, decide_false, hcond, hvNil, hvFld, hu.ld, gC, List.getElem?_cons_succ, List.getElem?_cons_zero]
    rcases hA with ⟨-, -, h0⟩ | ⟨qa, fa, -, rfl, g3, g4, -⟩
    · exact absurd h0 hpos
    have hqr : qa ≠ r := fun e => hsep r (.inl rfl) (by rw [e]; rfl)
    have hql : accId Lv' ≠ some qa := fun e => hsep qa (.inr (.inl e)) rfl
    have hd := hu.del hqr hql
    have kd : Kept s (u.del qa) r Lv Lv' := fun k ob z1 z2 z3 => ⟨by rw [del_ne _ (fun e => hsep k (.inr (.inr ⟨z1, z2, ob, z3⟩)) (by rw [e]; rfl))]; exact (ku k ob z1 z2 z3).1, (ku k ob z1 z2 z3).2⟩
    obtain ⟨Lm, hLm⟩ : ∃ Lm, (R1.l.map fun m => (⟨m.id, some m.tp⟩ : Mem)) = Lm := ⟨_, rfl⟩
    have hLml : Lm.length = R1.l.length := by rw [← hLm, List.length_map]
    rw [hLm] at g3 g4
    have hup : UpL [.view qa 0 2 R1.l.length fa, Av] u [rowL memC 2 Lm, rowL topC 2 R1.all] (u.del qa) := by
      have h1 := UpL.frzD (xs := [.view qa 0 2 R1.l.length fa, Av]) g3 (le_del u qa) (del_at u qa)
      have e : [HV.view qa 0 2 R1.l.length fa, Av].map (frz2 qa (rows memC Lm)) = [rowL memC 2 Lm, Av] := by
        have e2 : frz2 qa (rows memC Lm) Av = Av := by rcases hu.av with ⟨-, rfl⟩ | rfl <;> rfl
        have e3 : frz2 qa (rows memC Lm) (.view qa 0 2 R1.l.length fa) = rowL memC 2 Lm := by
          simp [frz2, frz1, frz0, phi, g4, rowL, hLml]
          exact List.take_of_length_le (by omega)
        simp only [List.map_cons, List.map_nil, e2, e3]
      rw [e] at h1
      exact h1.trans (av_up (R := R1) hu.av _)
    have htpL : ∀ m ∈ Lm, (m.tp.getD []).length ≤ 1000000000 := fun m hm => by
      rw [← hLm] at hm
      obtain ⟨p, hp, rfl⟩ := List.mem_map.1 hm
      have := htp p (hmem1 p hp)
      simp only [Option.getD_some]
      omega
    have hsh : ∀ rd, resD (if rd then roundA else rangeA) Lm R1.all = sharesOf rd (R1.l.map fun m => (m.id, m.tp)) R1.all := fun rd => by
      unfold sharesOf
      rw [List.map_map, ← hLm]
      rfl
    have fin : ∀ o' : Option DD, o'.getD [] = sharesOf R1.round (R1.l.map fun m => (m.id, m.tp)) R1.all →
        ∃ Lv'' o'', RSt ((u.del qa).set r (.cells ((gC { R1 with gen := R1.gen + 1, state := 3, since := R1.now, l := R1.l.map fun m => { m with synced := false } } Lv' Av o).set 10 (rowV shE 2 o')))) r { R1 with gen := R1.gen + 1, state := 3, since := R1.now, l := R1.l.map fun m => { m with synced := false }, shares := sharesOf R1.round (R1.l.map fun m => (m.id, m.tp)) R1.all } Lv'' Av o'' ∧ Kept s ((u.del qa).set r (.cells ((gC { R1 with gen := R1.gen + 1, state := 3, since := R1.now, l := R1.l.map fun m => { m with synced := false } } Lv' Av o).set 10 (rowV shE 2 o')))) r Lv Lv'' := fun o' ho' => by
      obtain ⟨h5, k5⟩ := hd.put { R1 with gen := R1.gen + 1, state := 3, since := R1.now, l := R1.l.map fun m => { m with synced := false }, shares := sharesOf R1.round (R1.l.map fun m => (m.id, m.tp)) R1.all } Av o' rfl hd.av ho'
      exact ⟨Lv', o', h5, kd.trans k5⟩
    cases hrd : R1.round with
    | true =>
      simp only
      refine (HC.upArgs hup (refRR18 Lm R1.all (u.del qa) (by omega) (by rw [e1a]; omega) htpL)).mono ?_
      rintro v w' ⟨rfl, hv⟩
      obtain ⟨o', ho', rfl⟩ := uni hv
      simp only [vExtract, List.getElem?_cons_zero, List.getElem?_cons_succ]
      refine store1 hd.at_ (by simp [gC]) (hc_rowV _ _ _) (ho_rowV _ _ _) rfl ?_
      have hfin := fin o' (by rw [ho', hrd]; exact hsh true)
      simp only [hrd] at hfin ⊢
      exact hfin
    | false =>
      simp only
      refine (HC.upArgs hup (refRange15 Lm R1.all (u.del qa) (by omega) (by rw [e1a]; omega) htpL)).mono ?_
      rintro v w' ⟨rfl, hv⟩
      obtain ⟨o', ho', rfl⟩ := uni hv
      simp only [vExtract, List.getElem?_cons_zero, List.getElem?_cons_succ]
      refine store1 hd.at_ (by simp [gC]) (hc_rowV _ _ _) (ho_rowV _ _ _) rfl ?_
      have hfin := fin o' (by rw [ho', hrd]; exact hsh false)
      simp only [hrd] at hfin ⊢
      exact hfin
end
end Go.Proofs.YtkcgokkgefgcjaaGreatDoor.AS
end
section
namespace Go.Proofs.YtkcgokkgefgcjaaGreatDoor.AS
open Go.Proofs.YtkcgokkgefgcjaaGreatDoor.H Go.Proofs.YtkcgokkgefgcjaaGreatDoor.G0
set_option linter.unusedVariables false
set_option linter.unusedSimpArgs false
set_option maxRecDepth 100000
namespace GG
noncomputable def timeR1b (g : GG) : GG := if g.state = 2 then (if g.l = [] then g.emptyR else if (g.l.all (·.joined) || decide (g.rebalance ≤ g.now - g.since)) = true then g.formR else g) else g
noncomputable def timeR1 (g : GG) : GG :=
  (if (decide ((g.keep (kindP g 3)).l.length < g.l.length) && (decide (g.state = 3) || decide (g.state = 4))) = true then (g.keep (kindP g 3)).againR else g.keep (kindP g 3)).timeR1b
def timeR2 (g : GG) : GG := if g.state = 3 ∧ g.rebalance ≤ g.now - g.since then (if (g.keep (kindP g 2)).l.length < g.l.length then (g.keep (kindP g 2)).againR else g.keep (kindP g 2)) else g
noncomputable def timeR (g : GG) (now : Int) : GG := { g with now := max g.now now }.timeR1.timeR2
end GG
section
variable {s : HS} {r : Nat} {R : GG} {Lv Av : HV} {o : Option DD} {K : Nat}
theorem Bd.plen (hb : Bd K R) : R.l.length ≤ 1000000 := by have h1 := hb.len; have h2 := hb.k; omega
theorem Bd.keep (h : Bd K R) (p : GM → Bool) : Bd K (R.keep p) := ⟨h.now, h.since, fun m hm => h.mem m (List.mem_filter.1 hm).1, h.gen, Nat.le_trans (List.length_filter_le _ _) h.len, h.all, h.sh, h.k⟩
theorem Bd.emptyR (h : Bd K R) : Bd K R.emptyR := ⟨h.now, h.since, h.mem, h.gen, h.len, h.all, ⟨Nat.zero_le _, fun d hd => by cases hd⟩, h.k⟩
theorem Bd.prepareR (h : Bd K R) : Bd K R.prepareR := by
  refine ⟨h.now, h.now, fun m hm => ?_, h.gen, by show (R.l.map _).length ≤ K; rw [List.length_map]; exact h.len, h.all, ⟨Nat.zero_le _, fun d hd => by cases hd⟩, h.k⟩
  obtain ⟨m', hm', rfl⟩ := List.mem_map.1 (show m ∈ R.l.map _ from hm)
  exact h.mem m' hm'
theorem Bd.againR (h : Bd K R) : Bd K R.againR := by
  unfold GG.againR
  split
  · exact h.emptyR
  · exact h.prepareR
theorem Bd.formR (h : Bd K R) (hk : K + 1 ≤ 1000000) : Bd (K + 1) R.formR := by
  have ho := h.keep fun m => m.joined
  unfold GG.formR
  simp only
  generalize (R.keep fun m => m.joined) = G1 at *
  split
  · exact ho.emptyR.mono (by omega) hk
  · refine ⟨ho.now, ho.now, fun m hm => ?_, ?_, ?_, ho.all, sharesOf_bd _ _ _ ?_ ho.all, hk⟩
    · obtain ⟨m', hm', rfl⟩ := List.mem_map.1 (show m ∈ G1.l.map _ from hm)
      exact ho.mem m' hm'
    · have := ho.gen
      exact ⟨by show 0 ≤ G1.gen + 1; omega, by show G1.gen + 1 ≤ _; omega⟩
    · show (G1.l.map _).length ≤ _
      rw [List.length_map]
      have := ho.len
      omega
    · rw [List.length_map]; have h1 := ho.len; have h2 := ho.k; omega
theorem Bd.timeR1b (h : Bd K R) (hk : K + 1 ≤ 1000000) : Bd (K + 1) R.timeR1b := by
  unfold GG.timeR1b
  repeat' split
  · exact h.emptyR.mono (by omega) hk
  · exact h.formR hk
  · exact h.mono (by omega) hk
  · exact h.mono (by omega) hk
theorem Bd.timeR1 (h : Bd K R) (hk : K + 1 ≤ 1000000) : Bd (K + 1) R.timeR1 := by
  unfold GG.timeR1
  refine Bd.timeR1b ?_ hk
  split
  · exact (h.keep _).againR
  · exact h.keep _
theorem Bd.timeR2 (h : Bd K R) : Bd K R.timeR2 := by
  unfold GG.timeR2
  repeat' split
  · exact (h.keep _).againR
  · exact h.keep _
  · exact h
theorem Bd.setNow (h : Bd K R) {n : Int} (hn : n ≤ 1125899906842624) : Bd K { R with now := max R.now n } := ⟨by have := h.now; exact ⟨by show 0 ≤ max R.now n; omega, by show max R.now n ≤ _; omega⟩, h.since, h.mem, h.gen, h.len, h.all, h.sh, h.k⟩
theorem Bd.timeR {n : Int} (h : Bd K R) (hk : K + 1 ≤ 1000000) (hn : n ≤ 1125899906842624) : Bd (K + 1) (R.timeR n) := ((h.setNow hn).timeR1 hk).timeR2
theorem keepB (h : RSt s r R Lv Av o) (hb : Bd K R) {k : Int} (hk : k = 1 ∨ k = 2 ∨ k = 3) :
    HC Tryz.prog 72 [.ptr r 0, .lit (.int .i64 k)] s (fun v t => ∃ Lv', RSt t r (R.keep (kindP R k)) Lv' Av o ∧ Kept s t r Lv Lv' ∧ v = .lit (.bool (decide ((R.keep (kindP R k)).l.length < R.l.length)))) :=
  keep72 h hb.plen hk (by have := hb.now; omega) fun m hm => ⟨(hb.mem m hm).1, (hb.mem m hm).2.1⟩
theorem formB (h : RSt s r R Lv Av o) (hb : Bd K R) : HC Tryz.prog 53 [.ptr r 0] s (fun v t => ∃ Lv' o', RSt t r R.formR Lv' Av o' ∧ Kept s t r Lv Lv') :=
  form53 h hb.plen (by have := hb.now; omega) (fun m hm => ⟨(hb.mem m hm).1, (hb.mem m hm).2.1⟩) (fun m hm => (hb.mem m hm).2.2) hb.all (by have := hb.gen; have := hb.k; omega)
theorem max2R (a c : Int) : hfold vMax2 (.lit (.int .i64 a)) [.lit (.int .i64 c)] = some (.lit (.int .i64 (max a c))) := by
  simp only [hfold, vMax2, Option.bind_some]
  congr 3
  split <;> omega
theorem time46 (h : RSt s r R Lv Av o) (hb : Bd K R) (hk : K + 1 ≤ 1000000) {n : Int} (hn : n ≤ 1125899906842624) : HC Tryz.prog 46 [.ptr r 0, .lit (.int .i64 n)] s (fun v t => ∃ Lv' o', RSt t r (R.timeR n) Lv' Av o' ∧ Kept s t r Lv Lv') := by
  refine HC46 ?_
  unfold c46
  simp only [hvNil, hvFld, bindO, h.ld, gC, List.getElem?_cons_succ, List.getElem?_cons_zero, max2R]
  refine store1 h.at_ (by simp [gC]) (hc_int _ _) (ho_int _ _) rfl ?_
  obtain ⟨h0, k0⟩ := h.put { R with now := max R.now n } Av o rfl h.av h.sh
  rw [show (gC R Lv Av o).set 6 (.lit (.int .i64 (max R.now n))) = gC { R with now := max R.now n } Lv Av o from rfl]
  have hb0 := hb.setNow hn
  unfold GG.timeR
  generalize ({ R with now := max R.now n } : GG) = R0 at *
  generalize s.set r (.cells (gC R0 Lv Av o)) = s1 at *
  unfold GG.timeR1
  obtain ⟨R3, hR3⟩ : ∃ R3, (if (decide ((R0.keep (kindP R0 3)).l.length < R0.l.length) && (decide (R0.state = 3) || decide (R0.state = 4))) = true then (R0.keep (kindP R0 3)).againR else R0.keep (kindP R0 3)) = R3 := ⟨_, rfl⟩
  rw [hR3]
  have hb3 : Bd K R3 := by
    rw [← hR3]; split
    · exact (hb0.keep _).againR
    · exact hb0.keep _
  refine Join.of (fun _ u => ∃ Lv' o', RSt u r R3 Lv' Av o' ∧ Kept s u r Lv Lv') ?_ ?_
  rotate_left
  · intro K8 hK8
    refine Join.of (fun xs u => (∃ Lv', RSt u r (R0.keep (kindP R0 3)) Lv' Av o ∧ Kept s u r Lv Lv') ∧ xs = [.lit (.bool (decide ((R0.keep (kindP R0 3)).l.length < R0.l.length) && (decide (R0.state = 3) || decide (R0.state = 4))))]) ?_ ?_
    · rintro _ u ⟨⟨L2, h2, k2⟩, rfl⟩
      simp only [List.headD_cons]
      cases hc : decide ((R0.keep (kindP R0 3)).l.length < R0.l.length) && (decide (R0.state = 3) || decide (R0.state = 4)) with
      | true =>
        rw [if_pos hc] at hR3
        simp only [hcond]
        refine (again73 h2 (hb0.keep _).plen).mono ?_
        rintro _ v ⟨L3, o3, h3, k3⟩
        rw [hR3] at h3
        exact hK8 _ _ ⟨_, _, h3, k2.trans k3⟩
      | false =>
        rw [if_neg (by rw [hc]; exact Bool.false_ne_true)] at hR3
        simp only [hcond]
        rw [hR3] at h2
        exact hK8 _ _ ⟨_, _, h2, k2⟩
    · intro K11 hK11
      refine (keepB h0 hb0 (k := 3) (.inr (.inr rfl))).mono ?_
      rintro _ u ⟨L2, h2, k2, rfl⟩
      have hst : (R0.keep (kindP R0 3)).state = R0.state := rfl
      cases hd : decide ((R0.keep (kindP R0 3)).l.length < R0.l.length) with
      | false =>
        simp only [hcond]
        exact hK11 _ _ ⟨⟨_, h2, k0.trans k2⟩, by rw [hd]; rfl⟩
      | true =>
        simp only [hcond, hvNil, hvFld, h2.ld, gC, List.getElem?_cons_succ, List.getElem?_cons_zero, eql_n, hst]
        by_cases e3 : R0.state = 3
        · simp only [e3, decide_true]
          exact hK11 _ _ ⟨⟨_, h2, k0.trans k2⟩, by rw [hd, e3]; rfl⟩
        · simp only [e3, decide_false, hvNil, hvFld, h2.ld, gC, List.getElem?_cons_succ, List.getElem?_cons_zero, eql_n, hst]
          exact hK11 _ _ ⟨⟨_, h2, k0.trans k2⟩, by rw [hd]; simp [e3]⟩
  rintro _ u ⟨L3, o3, h3, k3⟩
  clear hR3
  refine Join.of (fun _ u => ∃ Lv' o', RSt u r R3.timeR1b Lv' Av o' ∧ Kept s u r Lv Lv') ?_ ?_
  rotate_left
  · intro K26 hK26
    simp only [hvNil, hvFld, h3.ld, gC, List.getElem?_cons_succ, List.getElem?_cons_zero, eql_n]
    unfold GG.timeR1b at hK26
    by_cases e2 : R3.state = 2
    · rw [if_pos e2] at hK26
      simp only [e2, decide_true, hcond, hvNil, hvFld, h3.ld, gC, List.getElem?_cons_succ, List.getElem?_cons_zero, h3.len, eql_n]
      by_cases hne : R3.l = []
      · rw [if_pos hne] at hK26
        rw [show decide ((R3.l.length : Int) = 0) = true from by rw [hne]; rfl]
        simp only
        refine (empty57 h3).mono ?_
        rintro _ v ⟨h4, k4⟩
        exact hK26 _ _ ⟨_, _, h4, k3.trans k4⟩
      · rw [if_neg hne] at hK26
        have hpos : R3.l.length ≠ 0 := fun e => hne (List.eq_nil_of_length_eq_zero e)
        rw [show decide ((R3.l.length : Int) = 0) = false from by rw [decide_eq_false_iff_not]; omega]
        simp only
        refine Join.of (fun xs v => v = u ∧ xs = [.lit (.bool (R3.l.all (·.joined) || decide (R3.rebalance ≤ R3.now - R3.since)))]) ?_ ?_
        · rintro _ v ⟨rfl, rfl⟩
          simp only [List.headD_cons]
          cases hc : R3.l.all (·.joined) || decide (R3.rebalance ≤ R3.now - R3.since) with
          | true =>
            rw [if_pos hc] at hK26
            simp only
            refine (formB h3 hb3).mono ?_
            rintro _ w ⟨L4, o4, h4, k4⟩
            exact hK26 _ _ ⟨_, _, h4, k3.trans k4⟩
          | false =>
            rw [if_neg (by rw [hc]; exact Bool.false_ne_true)] at hK26
            simp only
            exact hK26 _ _ ⟨_, _, h3, k3⟩
        · intro K40 hK40
          refine (ready52 h3 hb3.plen).mono ?_
          rintro _ v ⟨rfl, rfl⟩
          have q1 := hb3.now
          have q2 := hb3.since
          cases hj : R3.l.all (·.joined) with
          | true =>
            simp only
            exact hK40 _ _ ⟨rfl, by rw [hj]; rfl⟩
          | false =>
            simp only [hvNil, hvFld, h3.ld, gC, List.getElem?_cons_succ, List.getElem?_cons_zero]
            rw [sub_n (by omega) (by omega)]
            simp only [geq_n]
            exact hK40 _ _ ⟨rfl, by rw [hj]; rfl⟩
    · rw [if_neg e2] at hK26
      simp only [e2, decide_false, hcond]
      exact hK26 _ _ ⟨_, _, h3, k3⟩
  rintro _ v ⟨L4, o4, h4, k4⟩
  have hb4 := hb3.timeR1b hk
  generalize R3.timeR1b = R4 at *
  unfold GG.timeR2
  have q1 := hb4.now
  have q2 := hb4.since
  refine Join.of (fun xs w => (∃ Lv', RSt w r (if R4.state = 3 ∧ R4.rebalance ≤ R4.now - R4.since then R4.keep (kindP R4 2) else R4) Lv' Av o4 ∧ Kept s w r Lv Lv') ∧ xs = [.lit (.bool (decide ((R4.state = 3 ∧ R4.rebalance ≤ R4.now - R4.since) ∧ (R4.keep (kindP R4 2)).l.length < R4.l.length)))]) ?_ ?_
  · rintro _ w ⟨⟨L5, h5, k5⟩, rfl⟩
    simp only [List.headD_cons]
    by_cases hc : R4.state = 3 ∧ R4.rebalance ≤ R4.now - R4.since
    · rw [if_pos hc] at h5 ⊢
      by_cases hd : (R4.keep (kindP R4 2)).l.length < R4.l.length
      · rw [if_pos hd, decide_eq_true ⟨hc, hd⟩]
        simp only [hcond]
        refine (again73 h5 (hb4.keep _).plen).mono ?_
        rintro _ x ⟨L6, o6, h6, k6⟩
        exact ⟨_, _, h6, k5.trans k6⟩
      · rw [if_neg hd, decide_eq_false (fun hh => hd hh.2)]
        simp only [hcond]
        exact ⟨_, _, h5, k5⟩
    · rw [if_neg hc] at h5 ⊢
      rw [decide_eq_false (fun hh => hc hh.1)]
      simp only [hcond]
      exact ⟨_, _, h5, k5⟩
  · intro K58 hK58
    simp only [hvNil, hvFld, h4.ld, gC, List.getElem?_cons_succ, List.getElem?_cons_zero, eql_n]
    by_cases e3 : R4.state = 3
    · simp only [e3, decide_true, hcond, hvNil, hvFld, h4.ld, gC, List.getElem?_cons_succ, List.getElem?_cons_zero]
      rw [sub_n (by omega) (by omega)]
      simp only [hvNil, hvFld, h4.ld, gC, List.getElem?_cons_succ, List.getElem?_cons_zero, geq_n]
      by_cases hov : R4.rebalance ≤ R4.now - R4.since
      · simp only [hov, decide_true]
        refine (keepB h4 hb4 (k := 2) (.inr (.inl rfl))).mono ?_
        rintro _ w ⟨L5, h5, k5, rfl⟩
        refine hK58 _ _ ⟨⟨L5, by rw [if_pos ⟨e3, hov⟩]; exact h5, k4.trans k5⟩, ?_⟩
        congr 3
        simp [e3, hov]
      · simp only [hov, decide_false]
        exact hK58 _ _ ⟨⟨L4, by rw [if_neg (fun hh => hov hh.2)]; exact h4, k4⟩, by rw [decide_eq_false (fun hh => hov hh.1.2)]⟩
    · simp only [e3, decide_false, hcond]
      exact hK58 _ _ ⟨⟨L4, by rw [if_neg (fun hh => e3 hh.1)]; exact h4, k4⟩, by rw [decide_eq_false (fun hh => e3 hh.1.1)]⟩
end
end Go.Proofs.YtkcgokkgefgcjaaGreatDoor.AS
end
section
namespace Go.Proofs.YtkcgokkgefgcjaaGreatDoor.AS
open Go.Proofs.YtkcgokkgefgcjaaGreatDoor.H Go.Proofs.YtkcgokkgefgcjaaGreatDoor.G0
set_option linter.unusedVariables false
set_option linter.unusedSimpArgs false
set_option maxRecDepth 100000
namespace GG
noncomputable def tickR (g : GG) (al : List Top) (n : Int) : GG := { g with all := al }.timeR n
def setM (g : GG) (i : Nat) (f : GM → GM) : GG := { g with l := g.l.set i (f (g.l.getD i gm0)) }
def fenceR (g : GG) (id : By) (gen : Int) : Int := match g.at_ id with
  | none => 13
  | some _ => if gen = g.gen then 0 else 12
noncomputable def beatR (g : GG) (id : By) (gen n : Int) : GG × Int :=
  match (g.timeR n).at_ id with
  | none => (g.timeR n, 13)
  | some i => if gen = (g.timeR n).gen then ((g.timeR n).setM i (fun m => { m with heard := (g.timeR n).now }), if (g.timeR n).state = 2 then 14 else 0) else (g.timeR n, 12)
end GG
section
variable {s : HS} {r : Nat} {R : GG} {Lv Av : HV} {o : Option DD} {K : Nat}
theorem tick24 (h : RSt s r R Lv Av o) (hb : Bd K R) (hk : K + 1 ≤ 1000000) {al : List Top} (hal : al.length ≤ 1000) {n : Int} (hn : n ≤ 1125899906842624) : HC Tryz.prog 24 [.ptr r 0, rowL topC 2 al, .lit (.int .i64 n)] s (fun v t => ∃ Lv' o', RSt t r (R.tickR al n) Lv' (rowL topC 2 al) o' ∧ Kept s t r Lv Lv') := by
  refine HC24 ?_
  unfold c24
  simp only [hvNil, hvFld, bindO]
  refine store1 h.at_ (by simp [gC]) (hc_rowV topC 2 (some al)) (ho_rowV topC 2 (some al)) rfl ?_
  obtain ⟨h0, k0⟩ := h.put { R with all := al } (rowL topC 2 al) o rfl (.inr rfl) h.sh
  rw [show (gC R Lv Av o).set 9 (rowL topC 2 al) = gC { R with all := al } Lv (rowL topC 2 al) o from rfl]
  refine (time46 h0 (hb.setAll hal) hk hn).mono ?_
  rintro _ t ⟨L1, o1, h1, k1⟩
  exact ⟨L1, o1, h1, k0.trans k1⟩
theorem fence26 (h : RSt s r R Lv Av o) (hl : R.l.length ≤ 1000000) (id : By) (gen : Int) : HC Tryz.prog 26 [.ptr r 0, strV id, .lit (.int .i64 gen)] s (fun v t => t = s ∧ v = .lit (.int .i64 (R.fenceR id gen))) := by
  refine HC26 ?_
  unfold c26
  refine (at47 h hl id).mono ?_
  rintro _ t ⟨rfl, rfl⟩
  unfold GG.fenceR
  cases hi : R.at_ id with
  | none =>
    simp only [lss_n, bindO, show decide ((-1 : Int) < 0) = true from rfl, hcond]
    exact ⟨trivial, trivial⟩
  | some i =>
    simp only [lss_n, bindO, show decide ((i : Int) < 0) = false from by rw [decide_eq_false_iff_not]; omega, hcond, hvNil, hvFld, h.ld, gC, List.getElem?_cons_succ, List.getElem?_cons_zero, neq_i3]
    by_cases he : gen = R.gen
    · simp only [he, decide_true, Bool.not_true, if_true]
      exact ⟨trivial, trivial⟩
    · simp only [he, decide_false, Bool.not_false, if_false]
      exact ⟨trivial, trivial⟩
theorem members30 (h : RSt s r R Lv Av o) (hl : R.l.length ≤ 1000000) : HC Tryz.prog 30 [.ptr r 0] s (fun v t => t = s ∧ v = rowL strC 1 (ids R)) := by
  refine HC.up (HC30 ?_)
  unfold c30
  refine HLoop.ghost (σ := HV × Nat) (fun x => [x.1, .lit (.int .i64 (x.2 : Int))]) (fun x t => x.2 ≤ R.l.length ∧ HS.le s t ∧ Acc s t 1 x.1 x.2 (rows strC ((R.l.take x.2).map GM.id))) (fun x => R.l.length - x.2) (nilV, 0) rfl ⟨Nat.zero_le _, le_refl' s, Acc.nil _ _ _⟩ ?_
  rintro ⟨A, i⟩ t K' ⟨g1, g2, g3⟩ hK
  simp only at g1 g2 g3
  have ht : ∀ k, vLoad t (.ptr r k) 1 false = (gC R Lv Av o)[k]? := fun k => load_cell k 1 (g2 _ _ h.at_)
  have hlen : vLenT (Tryz.prog.underlying 55) t Lv = some (.lit (.int .i64 (R.l.length : Int))) := h.l.len _ t
  simp only [List.headD_cons, List.tail_cons, hvNil, hvFld, bindO, ht, gC, List.getElem?_cons_succ, List.getElem?_cons_zero, hlen, lss_i]
  by_cases hlt : i < R.l.length
  · obtain ⟨q, x1, hq⟩ := h.l.at_ gmC_len gm0 hlt
    have x3 := (hq t g2).2 0 (by omega) 1
    have htk := take_succ' gm0 R.l hlt
    simp only [hlt, decide_true, hcond, hvNil, hvFld, ht, gC, List.getElem?_cons_succ, List.getElem?_cons_zero, x1, vField, x3, gmC]
    refine g3.app1 g2 (hc_string _) rfl rfl ⟨by omega, by omega⟩ fun L' w k1 k2 k3 => ?_
    simp only [inc_i hlt (by omega)]
    refine hK (L', i + 1) _ _ rfl ⟨hlt, k2, ?_⟩ (by show R.l.length - (i + 1) < R.l.length - i; omega)
    show Acc s w 1 L' (i + 1) (rows strC ((R.l.take (i + 1)).map GM.id))
    rw [htk, List.map_append, rows_app]
    exact k1
  · obtain rfl : i = R.l.length := by omega
    rw [List.take_length] at g3
    simp only [hlt, decide_false, hcond]
    refine ⟨_, s, acc0_upL (.inl g3) g2, rfl, ?_⟩
    unfold rowL ids
    rw [List.length_map]
theorem leader32 (h : RSt s r R Lv Av o) : HC Tryz.prog 32 [.ptr r 0] s (fun v t => t = s ∧ v = strV R.leader) := by
  refine HC32 ?_
  unfold c32
  simp only [hvNil, hvFld, bindO, h.ld, gC, List.getElem?_cons_succ, List.getElem?_cons_zero, h.len, eql_n]
  unfold GG.leader
  cases hl : R.l with
  | nil =>
    simp only [List.length_nil, show decide ((((0 : Nat)) : Int) = 0) = true from rfl, hcond]
    exact ⟨trivial, rfl⟩
  | cons m l =>
    have hlt : 0 < R.l.length := by rw [hl]; exact Nat.succ_pos _
    obtain ⟨q, x1, -, x3⟩ := h.mem hlt
    have x4 := x3 0 (by omega) 1
    rw [show (((0 : Nat)) : Int) = 0 from rfl] at x1
    have e : R.l.getD 0 gm0 = m := by rw [hl]; rfl
    rw [e] at x4
    rw [show decide ((((m :: l).length : Nat) : Int) = 0) = false from by rw [decide_eq_false_iff_not]; simp; omega]
    simp only [hcond, hvNil, hvFld, h.ld, gC, List.getElem?_cons_succ, List.getElem?_cons_zero, x1, vField, x4, gmC]
    exact ⟨trivial, trivial⟩
theorem beat20 (h : RSt s r R Lv Av o) (hb : Bd K R) (hk : K + 1 ≤ 1000000) (id : By) (gen : Int) {n : Int} (hn : n ≤ 1125899906842624) : HC Tryz.prog 20 [.ptr r 0, strV id, .lit (.int .i64 gen), .lit (.int .i64 n)] s (fun v t => (∃ Lv' o', RSt t r (R.beatR id gen n).1 Lv' Av o' ∧ Kept s t r Lv Lv') ∧ v = .lit (.int .i64 (R.beatR id gen n).2)) := by
  refine HC20 ?_
  unfold c20
  refine (time46 h hb hk hn).mono ?_
  rintro _ t ⟨L1, o1, h1, k1⟩
  have hb1 := hb.timeR hk hn
  unfold GG.beatR
  generalize R.timeR n = R1 at *
  refine (at47 h1 hb1.plen id).mono ?_
  rintro _ u ⟨rfl, rfl⟩
  cases hi : R1.at_ id with
  | none =>
    simp only [lss_n, bindO, show decide ((-1 : Int) < 0) = true from rfl, hcond]
    exact ⟨⟨_, _, h1, k1⟩, trivial⟩
  | some i =>
    have hlt : i < R1.l.length := (List.findIdx?_eq_some_iff_getElem.1 (show R1.l.findIdx? _ = some i from hi)).1
    simp only [lss_n, bindO, show decide ((i : Int) < 0) = false from by rw [decide_eq_false_iff_not]; omega, hcond, hvNil, hvFld, h1.ld, gC, List.getElem?_cons_succ, List.getElem?_cons_zero, neq_i3]
    by_cases he : gen = R1.gen
    · simp only [he, decide_true, Bool.not_true, if_true]
      refine (set48 h1 hb1.plen).mono ?_
      rintro _ v ⟨L2, h2, k2⟩
      obtain ⟨q, x1, w, x2, x3, x4⟩ := h2.mput (i := i) hlt (j := 2) (by omega) (v := .lit (.int .i64 R1.now)) (hc_int _ _) (ho_int _ _) { (R1.l.getD i gm0) with heard := R1.now } rfl
      simp only [hvNil, hvFld, h2.ld, gC, List.getElem?_cons_succ, List.getElem?_cons_zero, x1, vField]
      refine x4 _ ?_
      simp only [x2.ld, gC, List.getElem?_cons_succ, List.getElem?_cons_zero, eql_n]
      by_cases hs : R1.state = 2
      · simp only [hs, decide_true, if_true]
        exact ⟨⟨_, _, x2, (k1.trans k2).trans x3⟩, trivial⟩
      · simp only [hs, decide_false, if_false]
        exact ⟨⟨_, _, x2, (k1.trans k2).trans x3⟩, trivial⟩
    · simp only [he, decide_false, Bool.not_false, if_false]
      exact ⟨⟨_, _, h1, k1⟩, trivial⟩
theorem new7 {session rebalance gen : Int} {round : Bool} (h1 : 1 ≤ session ∧ session ≤ 1000000) (h2 : 1 ≤ rebalance ∧ rebalance ≤ 1000000) (h3 : 0 ≤ gen ∧ gen ≤ 1099511627776) (s : HS) :
    HC Tryz.prog 7 [.lit (.int .i64 session), .lit (.int .i64 rebalance), .lit (.int .i64 gen), .lit (.bool round)] s (fun v t => ∃ q, s q = none ∧ v = .tup [.ptr q 0, .lit (.int .i64 0)] ∧ RSt t q (GG.new session rebalance gen round) nilV nilV none ∧ HS.le s t) := by
  refine HC7 ?_
  unfold c7
  refine Join.of (fun xs t => t = s ∧ xs = [.lit (.bool false)]) ?_ ?_
  rotate_left
  · intro K1 hK1
    simp only [lss_n, gtr_n, bindO, hcond, show decide (session < 1) = false from by simp; omega, show decide (1000000 < session) = false from by simp; omega, show decide (rebalance < 1) = false from by simp; omega, show decide (1000000 < rebalance) = false from by simp; omega, show decide (gen < 0) = false from by simp; omega, show decide (1099511627776 < gen) = false from by simp; omega]
    exact hK1 _ _ ⟨rfl, rfl⟩
  rintro _ t ⟨rfl, rfl⟩
  simp only [List.headD_cons, hcond]
  rw [show vMk [(0, 1), (1, 1), (2, 1), (3, 1), (4, 1), (5, 1), (6, 1), (7, 1), (8, 1), (9, 1), (10, 1)] [.lit (.int .i64 0), .lit (.int .i64 0), .lit (.bool false), .lit (.int .i64 0), .lit (.int .i64 0), .lit (.int .i64 0), .lit (.int .i64 0), .lit (.int .i64 0), .lit (.slice none 0 0), .lit (.slice none 0 0), .lit (.slice none 0 0)] [(0, .lit (.int .i64 session)), (1, .lit (.int .i64 rebalance)), (4, .lit (.int .i64 gen)), (2, .lit (.bool round)), (3, (.lit (.int .i64 1)))] = some (.agg (gC (GG.new session rebalance gen round) nilV nilV none)) from rfl]
  simp only [bindO]
  refine hbox_intro (hc_agg _) fun q hq => ?_
  exact ⟨q, hq, rfl, ⟨set_at _ _ _, .inl ⟨rfl, rfl, rfl⟩, (by rintro ⟨⟩), .inl ⟨rfl, rfl⟩, rfl⟩, le_set_new _ (le_refl' t) hq⟩
end
end Go.Proofs.YtkcgokkgefgcjaaGreatDoor.AS
end
