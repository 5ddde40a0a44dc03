/- The H layer, 12: whatever order is drawn, the region does what is said. -/
import Derived.Test.YtecnfekcflfihaaH11
namespace Go.Proofs.Ytecnfekcflfihaa.H
open Go.RowKit Go.MapKept
set_option linter.unusedVariables false
set_option linter.unusedSimpArgs false
variable {P : Program} {m : M} {s : HS} {w : World} {ops : Array Oper}

-- what an operation looks at, alone decides
theorem parts_congr {env env' : List HV} (l : List (Nat × Operand)) (h : ∀ x ∈ l.map (·.2), hev env x = hev env' x) : (l.map fun p => (p.1, hev env p.2)) = l.map fun p => (p.1, hev env' p.2) :=
  List.map_congr_left fun p hp => by rw [h p.2 (List.mem_map.2 ⟨p, hp, rfl⟩)]
theorem args_congr {env env' : List HV} (l : List Operand) (h : ∀ x ∈ l, hev env x = hev env' x) : l.map (hev env) = l.map (hev env') := List.map_congr_left h
theorem opt_congr {env env' : List HV} (l : Option Operand) (h : ∀ x ∈ l.toArray, hev env x = hev env' x) : l.map (hev env) = l.map (hev env') := by
  cases l with
  | none => rfl
  | some x => simp only [Option.map_some, h x (by simp)]
theorem hval_congr {env env' : List HV} (op : Op) (h : ∀ x ∈ op.operands, hev env x = hev env' x) : hval P op env s = hval P op env' s := by
  cases op <;> simp only [Op.operands] at h <;> simp only [hval]
  case build t ps => rw [parts_congr ps.toList fun x hx => h x (by simpa using hx)]
  case makeFunc fn first caps => rw [args_congr caps.toList fun x hx => h x (by simp at hx ⊢; exact .inr hx)]
  case slice t x lo hi mx => rw [h x (by simp), opt_congr lo fun y hy => h y (by simp at hy ⊢; exact .inr (.inl hy)), opt_congr hi fun y hy => h y (by simp at hy ⊢; exact .inr (.inr (.inl hy))), opt_congr mx fun y hy => h y (by simp at hy ⊢; exact .inr (.inr (.inr hy)))]
  case call c =>
    obtain ⟨callee, args, ats⟩ := c
    cases callee <;> simp only
    rename_i b
    rw [args_congr args.toList fun x hx => h x (by simp [Call.operands]; simpa using hx)]
  all_goals (first | rfl | (simp at h; simp only [h]; done) | (simp_all; done))
theorem heff_congr {env env' : List HV} {K : HV → HS → Prop} (op : Op) (h : ∀ x ∈ op.operands, hev env x = hev env' x) : heff P op env s K = heff P op env' s K := by
  cases op <;> simp only [Op.operands] at h <;> simp only [heff]
  case buildSlice t n ps => rw [parts_congr ps.toList fun x hx => h x (by simpa using hx)]
  case makeMap t r => rw [opt_congr r h]
  case call c =>
    obtain ⟨callee, args, ats⟩ := c
    obtain ⟨args⟩ := args
    cases callee with
    | invoke r n => rfl
    | value f =>
      have h1 := h f (by simp [Call.operands])
      have h2 := args_congr args fun x hx => h x (by simp [Call.operands, hx])
      simp only [h1, h2]
    | builtin b =>
      have h2 : ∀ x ∈ args, hev env x = hev env' x := fun x hx => h x (by simp [Call.operands, hx])
      cases b <;> try simp only
      all_goals
        cases args with
        | nil => rfl
        | cons x r =>
          cases r with
          | nil => rfl
          | cons y r =>
            cases r with
            | nil =>
              have e1 := h2 x (by simp)
              have e2 := h2 y (by simp)
              obtain ⟨ats⟩ := ats
              rcases ats with _ | ⟨t1, _ | ⟨t2, _ | _⟩⟩ <;> first | rfl | (simp only [e1, e2]; done)
            | cons _ _ => rfl
  all_goals (first | rfl | (simp at h; simp only [h]; done) | (simp_all; done))
theorem hdo_congr {env env' : List HV} {K : HV → HS → Prop} (o : Oper) (h : ∀ x ∈ o.op.operands, hev env x = hev env' x) : hdo P o env s K = hdo P o env' s K := by
  unfold hdo
  rw [hval_congr o.op h, heff_congr o.op h]
theorem hval_pure {env : List HV} {s' : HS} {op : Op} (h : isRead op = false) : hval P op env s = hval P op env s' := by
  cases op <;> simp only [hval] <;> first | rfl | (simp [isRead] at h; done) | skip
  rename_i c
  obtain ⟨callee, args, ats⟩ := c
  cases callee <;> simp only
  rename_i b
  cases b <;> first | rfl | (simp [isRead] at h; done) | (generalize args.toList.map (hev env) = l; cases l <;> rfl)

theorem mem_waits {k i : Nat} : i ∈ waits ops k ↔ ∃ o, ops[k]? = some o ∧ ∃ e ∈ o.after, Region.binds .any e = true ∧ e.on = i := by
  unfold waits
  cases ho : ops[k]? with
  | none => simp
  | some o => simp [and_assoc]
theorem mem_readyD {L : List Nat} {k : Nat} : k ∈ readyD ops L ↔ k < ops.size ∧ k ∉ L ∧ ∀ i ∈ waits ops k, i ∈ L := by
  unfold readyD
  simp [List.mem_filter, List.mem_range]
/-- Listed in the model's way. -/
def Lst (C : Array Bool) (j : Nat) : Prop := C.getD j false = true
theorem ready_iff {C : Array Bool} (hs : C.size = ops.size) {k : Nat} : k ∈ Region.ready .any ops C ↔ k < ops.size ∧ ¬ Lst C k ∧ ∀ i ∈ waits ops k, Lst C i := by
  rw [mem_ready]
  constructor
  · rintro ⟨h1, o, h2, h3⟩
    have hlt := (Array.getElem?_eq_some_iff.1 h2).1
    refine ⟨hlt, ?_, fun i hi => ?_⟩
    · unfold Lst
      simp only [Array.getD_eq_getD_getElem?] at h1 ⊢
      rw [Array.getElem?_eq_getElem (by omega)] at h1 ⊢
      simp only [Option.getD_some] at h1 ⊢
      rw [h1]; exact Bool.false_ne_true
    · obtain ⟨o', g1, e, g2, g3, rfl⟩ := mem_waits.1 hi
      rw [h2] at g1; cases g1
      exact h3 e g2 g3
  · rintro ⟨hlt, h1, h2⟩
    refine ⟨?_, ops[k], by simp [hlt], fun e he hb => h2 e.on (mem_waits.2 ⟨ops[k], by simp [hlt], e, he, hb, rfl⟩)⟩
    unfold Lst at h1
    simp only [Array.getD_eq_getD_getElem?] at h1 ⊢
    rw [Array.getElem?_eq_getElem (by omega)] at h1 ⊢
    simp only [Option.getD_some] at h1 ⊢
    simpa using h1
theorem lst_set {C : Array Bool} {j i : Nat} (hj : j < C.size) : Lst (C.setIfInBounds j true) i ↔ i = j ∨ Lst C i := by
  unfold Lst
  by_cases h : j = i
  · subst h; simp [hj]
  · rw [getD_set_ne false h]
    constructor
    · exact .inr
    · rintro (h' | h')
      · exact absurd h'.symm h
      · exact h'
/-- What waits, by a chain, for what is not listed, is not listed. -/
theorem reach_lst {C : Array Bool} (hc : ∀ k, Lst C k → ∀ i ∈ waits ops k, Lst C i) {i : Nat} : ∀ (fuel k : Nat), reachD ops i fuel k = true → (∀ j ∈ waits ops k, Lst C j) → Lst C i
  | 0, k, h, _ => by simp [reachD] at h
  | fuel + 1, k, h, hk => by
    unfold reachD at h
    obtain ⟨j, hj, h1⟩ := List.any_eq_true.1 h
    simp only [Bool.or_eq_true, beq_iff_eq] at h1
    rcases h1 with h1 | h1
    · subst h1; exact hk j hj
    · exact reach_lst hc fuel j h1 (hc j (hk j hj))
def Ord (ops : Array Oper) : List Nat → Prop
  | [] => True
  | k :: L => k < ops.size ∧ k ∉ L ∧ (∀ i ∈ waits ops k, i ∈ L) ∧ Ord ops L
theorem all_listed {C : Array Bool} (hs : C.size = ops.size) (hr : Region.ready .any ops C = []) : ∀ L, Ord ops L → ∀ j ∈ L, Lst C j
  | [], _, j, hj => by simp at hj
  | k :: L, h, j, hj => by
    have ih := all_listed hs hr L h.2.2.2
    rcases List.mem_cons.1 hj with rfl | hj
    · by_cases hl : Lst C j
      · exact hl
      · have : j ∈ Region.ready .any ops C := (ready_iff hs).2 ⟨h.1, hl, fun i hi => ih i (h.2.2.1 i hi)⟩
        rw [hr] at this; cases this
    · exact ih j hj
def gIs (ops : Array Oper) (env : List HV) (j : Nat) : Option Bool → Prop
  | some b => gval ops env j = .lit (.bool b)
  | none => ∃ vs, gval ops env j = .lit (.tuple vs)
def KnownH (ops : Array Oper) (env : List HV) (kn : Known) : Prop := ∀ j b, knownAt kn j = some b → gIs ops env j b
theorem gval_put {env : List HV} {d : Option Tmp} {v : HV} {j : Nat} (h : dstOf ops j ≠ d) : gval ops (hput env d v) j = gval ops env j := by
  unfold gval
  cases hj : dstOf ops j with
  | none => rfl
  | some t =>
    cases d with
    | none => rfl
    | some d =>
      have hne : d ≠ t := fun e => h (by rw [hj, e])
      simp only [hput, hev, List.getD]
      rw [List.getElem?_set_ne hne]
theorem known_forget {kn : Known} {d : Option Tmp} {j : Nat} {b : Option Bool} : knownAt (forget ops d kn) j = some b → dstOf ops j ≠ d ∧ knownAt kn j = some b := by
  induction kn with
  | nil => intro h; cases h
  | cons p r ih =>
    obtain ⟨i, c⟩ := p
    intro h
    simp only [H.forget] at h
    split at h
    · rename_i hd
      obtain ⟨h1, h2⟩ := ih h
      refine ⟨h1, ?_⟩
      simp only [knownAt]
      rw [if_neg (fun (e : i = j) => h1 (by rw [← e]; exact hd))]
      exact h2
    · rename_i hd
      simp only [knownAt] at h ⊢
      split at h
      · rename_i e; subst e; exact ⟨hd, by rw [if_pos rfl]; exact h⟩
      · rename_i e; rw [if_neg e]; exact ih h
theorem KnownH.forget {env : List HV} {kn : Known} (h : KnownH ops env kn) (d : Option Tmp) (v : HV) : KnownH ops (hput env d v) (forget ops d kn) := by
  intro j b hj
  obtain ⟨h1, h2⟩ := known_forget hj
  have h3 := h j b h2
  cases b with
  | some b => exact (gval_put h1).trans h3
  | none => obtain ⟨vs, h4⟩ := h3; exact ⟨vs, (gval_put h1).trans h4⟩
theorem KnownH.cons {env : List HV} {kn : Known} {j : Nat} {b : Option Bool} (h : KnownH ops env kn) (hb : gIs ops env j b) : KnownH ops env ((j, b) :: kn) := by
  intro i c hc
  simp only [knownAt] at hc
  split at hc
  · rename_i e; subst e; cases hc; exact hb
  · exact h i c hc
/-- Whether an operation is wanted, by what is known. -/
def WantH (ops : Array Oper) (env : List HV) (o : Oper) (b : Bool) : Prop :=
  match o.guard with
  | none => b = true
  | some (j, want) => if b then gIs ops env j (some want) else (gIs ops env j (some (!want)) ∨ gIs ops env j none)
theorem gIs_undef {env : List HV} {i : Nat} {o : Oper} (ho : ops[i]? = some o) : gIs ops (hput env o.dst (.lit undef)) i none := by
  refine ⟨#[], ?_⟩
  unfold gval dstOf
  rw [ho]
  simp only [Option.bind_some]
  cases hd : o.dst with
  | none => rfl
  | some d =>
    simp only [hput, hev, List.getD]
    by_cases hlt : d < env.length
    · rw [List.getElem?_set_self hlt]; rfl
    · rw [List.getElem?_eq_none (by simpa using hlt)]; rfl
theorem set_same {l : List HV} {t : Nat} {v : HV} (h : l.getD t (.lit undef) = v) (hlt : t < l.length) : l.set t v = l := by
  apply List.ext_getElem?
  intro k
  by_cases hk : t = k
  · subst hk
    rw [List.getElem?_set_self hlt, ← h]
    simp [List.getD, hlt]
  · rw [List.getElem?_set_ne hk]
/-- A guard that is so is said to be so: nothing changes. -/
theorem setB_same {env : List HV} {j : Nat} {b : Bool} (hb : gval ops env j = .lit (.bool b)) : setB ops env j b = env := by
  unfold setB
  unfold gval at hb
  cases hd : dstOf ops j with
  | none => rfl
  | some t =>
    rw [hd] at hb
    by_cases hlt : t < env.length
    · exact set_same hb hlt
    · have : env.getD t (.lit undef) = .lit undef := by simp [List.getD, List.getElem?_eq_none (Nat.le_of_not_lt hlt)]
      simp only [hev] at hb
      rw [this] at hb
      simp [undef] at hb
theorem hstep_cases {k : Nat} {o : Oper} {kn : Known} {env : List HV} {K : Known → List HV → HS → Prop} (ho : ops[k]? = some o) (h : hstep P ops k o kn env s K) (hk : KnownH ops env kn) :
    (WantH ops env o true ∧ ∃ kn', KnownH ops env kn' ∧ hdo P o env s fun v s' => K (forget ops o.dst kn') (hput env o.dst v) s') ∨
    (WantH ops env o false ∧ ∃ kn', KnownH ops (hput env o.dst (.lit undef)) kn' ∧ K kn' (hput env o.dst (.lit undef)) s) := by
  have sk : ∀ kn', KnownH ops env kn' → KnownH ops (hput env o.dst (.lit undef)) ((k, none) :: forget ops o.dst kn') := fun kn' hk' => (hk'.forget o.dst _).cons (gIs_undef ho)
  unfold hstep at h
  unfold WantH
  cases hg : o.guard with
  | none => rw [hg] at h; exact .inl ⟨rfl, kn, hk, h⟩
  | some p =>
    obtain ⟨j, want⟩ := p
    rw [hg] at h
    simp only at h ⊢
    cases hka : knownAt kn j with
    | some b =>
      simp only [hka] at h
      have hy := hk j b hka
      split at h
      · rename_i hb; subst hb; exact .inl ⟨by simpa using hy, kn, hk, h⟩
      · rename_i hb
        refine .inr ⟨?_, _, sk kn hk, h⟩
        simp only [Bool.false_eq_true, if_false]
        cases b with
        | none => exact .inr hy
        | some b =>
          have : b = !want := by cases b <;> cases want <;> simp_all
          subst this; exact .inl hy
    | none =>
      simp only [hka] at h
      unfold hcond at h
      split at h
      · rename_i hb
        have hy : gIs ops env j (some true) := hb
        rw [setB_same hb] at h
        cases want
        · rw [if_neg (by decide)] at h
          exact .inr ⟨by simpa using Or.inl hy, _, sk _ (hk.cons hy), h⟩
        · rw [if_pos rfl] at h
          exact .inl ⟨by simpa using hy, _, hk.cons hy, h⟩
      · rename_i hb
        have hy : gIs ops env j (some false) := hb
        rw [setB_same hb] at h
        cases want
        · rw [if_pos rfl] at h
          exact .inl ⟨by simpa using hy, _, hk.cons hy, h⟩
        · rw [if_neg (by decide)] at h
          exact .inr ⟨by simpa using Or.inl hy, _, sk _ (hk.cons hy), h⟩
      · exact h.elim
/-- An early operation comes to v whenever it comes. -/
def EOK (P : Program) (ops : Array Oper) (o : Oper) (env : List HV) (s : HS) (v : HV) : Prop :=
  (WantH ops env o true ∧ hval P o.op env s = some v) ∨ (WantH ops env o false ∧ v = .lit undef)
theorem hev_put {env : List HV} {d : Option Tmp} {v : HV} {x : Operand} (h : ∀ t, d = some t → x ≠ .tmp t) : hev (hput env d v) x = hev env x := by
  cases d with
  | none => rfl
  | some d =>
    cases x with
    | tmp t =>
      have hne : d ≠ t := fun e => h d rfl (by rw [e])
      simp only [hput, hev, List.getD]
      rw [List.getElem?_set_ne hne]
    | _ => rfl
theorem mem_looks {k t : Nat} {o : Oper} (ho : ops[k]? = some o) : t ∈ looks ops k ↔ (.tmp t ∈ o.op.operands) ∨ ∃ g b, o.guard = some (g, b) ∧ dstOf ops g = some t := by
  unfold looks
  rw [ho]
  simp only [Oper.looksAt, List.mem_append, List.mem_filterMap]
  constructor
  · rintro (⟨x, hx, h⟩ | h)
    · cases x <;> simp at h
      subst h; exact .inl (by simpa using hx)
    · split at h
      · rename_i g b hg
        refine .inr ⟨g, b, hg, ?_⟩
        unfold dstOf
        cases hd : (ops[g]?).bind (·.dst) with
        | none => rw [hd] at h; simp at h
        | some q => rw [hd] at h; simp at h; rw [h]
      · simp at h
  · rintro (h | ⟨g, b, hg, hd⟩)
    · exact .inl ⟨.tmp t, by simpa using h, rfl⟩
    · refine .inr ?_
      rw [hg]
      simp only
      unfold dstOf at hd
      rw [hd]; simp
/-- Nothing that k looks at is changed: k's value is what it was. -/
theorem WantH.congr {env env' : List HV} {k : Nat} {o : Oper} (ho : ops[k]? = some o) (h : ∀ t ∈ looks ops k, hev env' (.tmp t) = hev env (.tmp t)) {b : Bool} (hw : WantH ops env o b) : WantH ops env' o b := by
  unfold WantH at *
  cases hg : o.guard with
  | none => rw [hg] at hw; exact hw
  | some p =>
    obtain ⟨j, want⟩ := p
    rw [hg] at hw
    have hgv : gval ops env' j = gval ops env j := by
      unfold gval
      cases hd : dstOf ops j with
      | none => rfl
      | some t => exact h t ((mem_looks ho).2 (.inr ⟨j, want, hg, hd⟩))
    have hgi : ∀ c, gIs ops env' j c = gIs ops env j c := fun c => by cases c <;> simp only [gIs, hgv]
    simp only [hgi]
    exact hw
theorem ops_congr {env env' : List HV} {k : Nat} {o : Oper} (ho : ops[k]? = some o) (h : ∀ t ∈ looks ops k, hev env' (.tmp t) = hev env (.tmp t)) : ∀ x ∈ o.op.operands, hev env' x = hev env x := by
  intro x hx
  cases x with
  | tmp t => exact h t ((mem_looks ho).2 (.inl hx))
  | _ => rfl
theorem EOK.congr {env env' : List HV} {k : Nat} {o : Oper} {v : HV} (ho : ops[k]? = some o) (h : ∀ t ∈ looks ops k, hev env' (.tmp t) = hev env (.tmp t)) (he : EOK P ops o env s v) : EOK P ops o env' s v := by
  rcases he with ⟨h1, h2⟩ | ⟨h1, h2⟩
  · exact .inl ⟨h1.congr ho h, by rw [hval_congr o.op (ops_congr ho h)]; exact h2⟩
  · exact .inr ⟨h1.congr ho h, h2⟩
end Go.Proofs.Ytecnfekcflfihaa.H
