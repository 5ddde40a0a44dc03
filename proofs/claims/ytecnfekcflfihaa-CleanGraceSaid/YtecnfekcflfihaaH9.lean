/- The H layer, 9: regions in the order of the text. -/
import Derived.Test.YtecnfekcflfihaaH8
namespace Go.Proofs.Ytecnfekcflfihaa.H
open Go.RowKit Go.MapKept
set_option linter.unusedVariables false
set_option linter.unusedSimpArgs false
variable {P : Program} {m : M} {s : HS} {w : World}

def bindO (x : Option HV) (K : HV → Prop) : Prop :=
  match x with
  | some v => K v
  | none => False
def hcond (g : HV) (T F : Prop) : Prop :=
  match g with
  | .lit (.bool true) => T
  | .lit (.bool false) => F
  | _ => False
def hdo (P : Program) (o : Oper) (env : List HV) (s : HS) (K : HV → HS → Prop) : Prop :=
  if isEff P o.op then heff P o.op env s K else bindO (hval P o.op env s) fun v => K v s
abbrev Known := List (Nat × Option Bool)
def dstOf (ops : Array Oper) (j : Nat) : Option Tmp := (ops[j]?).bind (·.dst)
def knownAt : Known → Nat → Option (Option Bool)
  | [], _ => none
  | (i, b) :: r, j => if i = j then some b else knownAt r j
def forget (ops : Array Oper) (d : Option Tmp) : Known → Known
  | [] => []
  | (i, b) :: r => if dstOf ops i = d then forget ops d r else (i, b) :: forget ops d r
def gval (ops : Array Oper) (env : List HV) (j : Nat) : HV :=
  match dstOf ops j with
  | some t => hev env (.tmp t)
  | none => .lit undef
/-- A guard is decided: it is known from here on. -/
def setB (ops : Array Oper) (env : List HV) (j : Nat) (b : Bool) : List HV := hput env (dstOf ops j) (.lit (.bool b))
def hops (P : Program) (ops : Array Oper) (K : List HV → HS → Prop) : List Nat → Known → List HV → HS → Prop
  | [], _, env, s => K env s
  | i :: rest, kn, env, s =>
    match ops[i]? with
    | none => hops P ops K rest kn env s
    | some o =>
      match o.guard with
      | none => hdo P o env s fun v s' => hops P ops K rest (forget ops o.dst kn) (hput env o.dst v) s'
      | some (j, want) =>
        match knownAt kn j with
        | some b => if b = some want then hdo P o env s fun v s' => hops P ops K rest (forget ops o.dst kn) (hput env o.dst v) s' else hops P ops K rest ((i, none) :: forget ops o.dst kn) (hput env o.dst (.lit undef)) s
        | none => hcond (gval ops env j)
            (if want = true then hdo P o (setB ops env j true) s fun v s' => hops P ops K rest (forget ops o.dst ((j, some true) :: kn)) (hput (setB ops env j true) o.dst v) s' else hops P ops K rest ((i, none) :: forget ops o.dst ((j, some true) :: kn)) (hput (setB ops env j true) o.dst (.lit undef)) s)
            (if want = false then hdo P o (setB ops env j false) s fun v s' => hops P ops K rest (forget ops o.dst ((j, some false) :: kn)) (hput (setB ops env j false) o.dst v) s' else hops P ops K rest ((i, none) :: forget ops o.dst ((j, some false) :: kn)) (hput (setB ops env j false) o.dst (.lit undef)) s)

def Fr (mods : List Nat) (a a' : Act) : Prop := a'.tmps.size = a.tmps.size ∧ ∀ t, t ∉ mods → a'.tmps.getD t undef = a.tmps.getD t undef
theorem Fr.refl (mods : List Nat) (a : Act) : Fr mods a a := ⟨rfl, fun _ _ => rfl⟩
theorem Fr.trans {mods : List Nat} {a b c : Act} (h : Fr mods a b) (k : Fr mods b c) : Fr mods a c := ⟨k.1.trans h.1, fun t ht => (k.2 t ht).trans (h.2 t ht)⟩
theorem Fr.mono {mods mods' : List Nat} {a b : Act} (h : Fr mods a b) (hm : ∀ t ∈ mods, t ∈ mods') : Fr mods' a b := ⟨h.1, fun t ht => h.2 t fun h' => ht (hm t h')⟩
theorem Fr.put {mods : List Nat} {a : Act} {d : Option Tmp} (hd : ∀ t, d = some t → t ∈ mods) (v : Value) : Fr mods a (a.put d v) := by
  cases d with
  | none => exact Fr.refl _ _
  | some d =>
    refine ⟨by simp [Act.put], fun t ht => ?_⟩
    have hne : d ≠ t := fun e => ht (e ▸ hd d rfl)
    simp [Act.put, Array.getElem?_setIfInBounds_ne hne]
def opsDsts (ops : Array Oper) : List Nat := ops.toList.filterMap (·.dst)
theorem dst_mem {ops : Array Oper} {i : Nat} {o : Oper} (h : ops[i]? = some o) : ∀ t, o.dst = some t → t ∈ opsDsts ops := by
  intro t ht
  exact List.mem_filterMap.2 ⟨o, by rw [← Array.getElem?_toList] at h; exact List.mem_of_getElem? h, ht⟩
def KnownOK (ops : Array Oper) (a : Act) (kn : Known) : Prop := ∀ j b, knownAt kn j = some b → yielded ops a.tmps j = b
theorem yielded_put {ops : Array Oper} {a : Act} {d : Option Tmp} {v : Value} {j : Nat} (h : dstOf ops j ≠ d) : yielded ops (a.put d v).tmps j = yielded ops a.tmps j := by
  cases d with
  | none => rfl
  | some d =>
    unfold yielded
    unfold dstOf at h
    cases hj : (ops[j]?).bind (·.dst) with
    | none => rfl
    | some t =>
      rw [hj] at h
      have hne : d ≠ t := fun e => h (by rw [e])
      simp [Act.put, Array.getElem?_setIfInBounds_ne hne]
theorem KnownOK.forget {ops : Array Oper} {a : Act} {v : Value} : ∀ {kn : Known} {d : Option Tmp}, KnownOK ops a kn → KnownOK ops (a.put d v) (forget ops d kn) := by
  intro kn d h j b hj
  have key : ∀ kn : Known, knownAt (H.forget ops d kn) j = some b → dstOf ops j ≠ d ∧ knownAt kn j = some b := by
    intro kn
    induction kn with
    | nil => intro h; cases h
    | cons p r ih =>
      obtain ⟨i, c⟩ := p
      intro h
      simp only [H.forget] at h
      split at h
      · rename_i hd
        obtain ⟨h1, h2⟩ := ih h
        refine ⟨h1, ?_⟩
        simp only [knownAt]
        rw [if_neg (fun (e : i = j) => h1 (by rw [← e]; exact hd))]
        exact h2
      · rename_i hd
        simp only [knownAt] at h ⊢
        split at h
        · rename_i e; subst e; exact ⟨hd, by rw [if_pos rfl]; exact h⟩
        · rename_i e; rw [if_neg e]; exact ih h
  obtain ⟨h1, h2⟩ := key kn hj
  rw [yielded_put h1]
  exact h j b h2
theorem KnownOK.cons {ops : Array Oper} {a : Act} {kn : Known} {j : Nat} {b : Option Bool} (h : KnownOK ops a kn) (hb : yielded ops a.tmps j = b) : KnownOK ops a ((j, b) :: kn) := by
  intro i c hc
  simp only [knownAt] at hc
  split at hc
  · rename_i e; subst e; cases hc; exact hb
  · exact h i c hc
theorem yielded_undef {ops : Array Oper} {a : Act} {i : Nat} {o : Oper} (ho : ops[i]? = some o) : yielded ops (a.put o.dst undef).tmps i = none := by
  unfold yielded
  rw [ho]
  simp only [Option.bind_some]
  cases hd : o.dst with
  | none => rfl
  | some d =>
    simp only [Option.bind_some, Act.put]
    cases h : (a.tmps.setIfInBounds d undef)[d]? with
    | none => rfl
    | some u =>
      have hlt := (Array.getElem?_eq_some_iff.1 h).1
      simp only [Array.size_setIfInBounds] at hlt
      rw [Array.getElem?_setIfInBounds_self_of_lt hlt] at h
      cases h; rfl
/-- What a guard's number yields. -/
theorem gval_ok {ops : Array Oper} {env : List HV} {a : Act} {j : Nat} (hE : EnvRep m env a) : (∀ b, gval ops env j = .lit (.bool b) → yielded ops a.tmps j = some b) ∧ (∀ vs, gval ops env j = .lit (.tuple vs) → yielded ops a.tmps j = none) := by
  unfold gval yielded
  unfold dstOf
  cases hj : (ops[j]?).bind (·.dst) with
  | none => exact ⟨fun b h => (by cases h), fun vs _ => rfl⟩
  | some t =>
    have hr := hE.eval (.tmp t)
    have hev' : a.eval (.tmp t) = a.tmps.getD t undef := rfl
    rw [hev'] at hr
    simp only [Option.bind_some]
    constructor
    · intro b hb
      have := lit_or hr hb
      simp only [Array.getD_eq_getD_getElem?] at this
      cases ht : a.tmps[t]? with
      | none => rw [ht] at this; simp [undef] at this
      | some u => rw [ht] at this; simp only [Option.getD_some] at this; subst this; rfl
    · intro vs hb
      have := lit_or hr hb
      simp only [Array.getD_eq_getD_getElem?] at this
      cases ht : a.tmps[t]? with
      | none => rfl
      | some u => rw [ht] at this; simp only [Option.getD_some] at this; subst this; rfl
theorem hdo_ok {o : Oper} {env : List HV} {a : Act} {K : HV → HS → Prop} (h : hdo P o env s K) (hR : Rel m s w) (hE : EnvRep m env a) {next : Act → World → Prop} {Q : Exit → Act → World → Prop}
    (hn : ∀ m' w' s' v cv, M.le m m' → Rel m' s' w' → Rep m' v cv → K v s' → next (a.put o.dst cv) w') : o.wp P a w next Q := by
  unfold hdo at h
  split at h
  · exact heff_ok h hR hE hn
  · unfold bindO at h
    split at h
    rotate_left
    · exact h.elim
    rename_i v hv
    have hk := h
    obtain ⟨cv, h1, h2⟩ := hval_ok hv hR hE
    exact upon_ok h1 (hn m w s v cv (M.le.refl m) hR h2 hk)
theorem setSame {env : List HV} {a : Act} {t : Nat} {b : Bool} (hE : EnvRep m env a) (hb : hev env (.tmp t) = .lit (.bool b)) : EnvRep m (env.set t (.lit (.bool b))) a := by
  refine ⟨by simp [hE.size], fun k x hk => ?_, hE.defers⟩
  by_cases hkt : t = k
  · subst hkt
    have hlt : t < env.length := by have := (List.getElem?_eq_some_iff.1 hk).1; simpa using this
    rw [List.getElem?_set_self hlt] at hk
    cases hk
    have := hE.eval (.tmp t)
    rw [hb] at this
    exact this
  · rw [List.getElem?_set_ne hkt] at hk
    exact hE.rep k x hk
theorem setB_rep {ops : Array Oper} {env : List HV} {a : Act} {j : Nat} {b : Bool} (hE : EnvRep m env a) (hb : gval ops env j = .lit (.bool b)) : EnvRep m (setB ops env j b) a := by
  unfold setB
  unfold gval at hb
  cases hd : dstOf ops j with
  | none => exact hE
  | some t =>
    rw [hd] at hb
    exact setSame hE hb
theorem hops_ok {ops : Array Oper} {K : List HV → HS → Prop} {Q : Exit → Act → World → Prop} : ∀ (is : List Nat) (kn : Known) (env : List HV) (s : HS) (m : M) (w : World) (a : Act),
    hops P ops K is kn env s → Rel m s w → EnvRep m env a → KnownOK ops a kn →
    (∀ m' env' s' a' w', M.le m m' → Rel m' s' w' → EnvRep m' env' a' → Fr (opsDsts ops) a a' → K env' s' → Q .normal a' w') → wpOps P ops Q is a w
  | [], kn, env, s, m, w, a, h, hR, hE, hk, hq => hq m env s a w (M.le.refl m) hR hE (Fr.refl _ _) h
  | i :: rest, kn, env, s, m, w, a, h, hR, hE, hk, hq => by
    rw [wpOps_cons]
    unfold wpOp
    unfold hops at h
    cases ho : ops[i]? with
    | none =>
      simp only [ho] at h ⊢
      exact hops_ok rest kn env s m w a h hR hE hk hq
    | some o =>
      simp only [ho] at h ⊢
      have run : ∀ env kn', EnvRep m env a → KnownOK ops a kn' → hdo P o env s (fun v s' => hops P ops K rest (forget ops o.dst kn') (hput env o.dst v) s') → Region.wanted o (yielded ops a.tmps) = true →
          (if Region.wanted o (yielded ops a.tmps) then o.wp P a w (wpOps P ops Q rest) Q ∨ (o.asks P a w ∧ LetsOut Q) else wpOps P ops Q rest (a.put o.dst undef) w) := by
        intro env kn' hE hk' h' hw
        rw [if_pos hw]
        refine .inl (hdo_ok h' hR hE fun m' w' s' v cv h1 h2 h3 h4 => ?_)
        refine hops_ok rest _ _ s' m' w' _ h4 h2 ((hE.mono h1).put h3 o.dst) hk'.forget fun m'' env'' s'' a'' w'' g1 g2 g3 g4 g5 => ?_
        exact hq m'' env'' s'' a'' w'' (h1.trans g1) g2 g3 ((Fr.put (dst_mem ho) cv).trans g4) g5
      have skip : ∀ env kn', EnvRep m env a → KnownOK ops a kn' → hops P ops K rest ((i, none) :: forget ops o.dst kn') (hput env o.dst (.lit undef)) s → Region.wanted o (yielded ops a.tmps) = false →
          (if Region.wanted o (yielded ops a.tmps) then o.wp P a w (wpOps P ops Q rest) Q ∨ (o.asks P a w ∧ LetsOut Q) else wpOps P ops Q rest (a.put o.dst undef) w) := by
        intro env kn' hE hk' h' hw
        rw [if_neg (by rw [hw]; exact Bool.false_ne_true)]
        refine hops_ok rest _ _ s m w _ h' hR (hE.put (.lit undef) o.dst) (hk'.forget.cons (yielded_undef ho)) fun m'' env'' s'' a'' w'' g1 g2 g3 g4 g5 => ?_
        exact hq m'' env'' s'' a'' w'' g1 g2 g3 ((Fr.put (dst_mem ho) undef).trans g4) g5
      cases hg : o.guard with
      | none =>
        simp only [hg] at h
        exact run env kn hE hk h (by simp [Region.wanted, hg])
      | some p =>
        obtain ⟨j, want⟩ := p
        simp only [hg] at h
        have hwant : ∀ b, yielded ops a.tmps j = b → Region.wanted o (yielded ops a.tmps) = (b == some want) := fun b hb => by simp only [Region.wanted, hg, hb]
        cases hka : knownAt kn j with
        | some b =>
          simp only [hka] at h
          have hy := hk j b hka
          split at h
          · rename_i hb; exact run env kn hE hk h (by rw [hwant _ hy, hb]; simp)
          · rename_i hb; exact skip env kn hE hk h (by rw [hwant _ hy]; simpa using hb)
        | none =>
          simp only [hka] at h
          obtain ⟨hgv1, hgv2⟩ := gval_ok (ops := ops) (j := j) hE
          unfold hcond at h
          split at h
          · rename_i hb
            have hy := hgv1 true hb
            have hE' := setB_rep hE hb
            split at h
            · rename_i hwt; exact run _ _ hE' (hk.cons hy) h (by rw [hwant _ hy, hwt]; rfl)
            · rename_i hwt; exact skip _ _ hE' (hk.cons hy) h (by rw [hwant _ hy]; cases want <;> simp_all)
          · rename_i hb
            have hy := hgv1 false hb
            have hE' := setB_rep hE hb
            split at h
            · rename_i hwt; exact run _ _ hE' (hk.cons hy) h (by rw [hwant _ hy, hwt]; rfl)
            · rename_i hwt; exact skip _ _ hE' (hk.cons hy) h (by rw [hwant _ hy]; cases want <;> simp_all)
          · exact h.elim
end Go.Proofs.Ytecnfekcflfihaa.H
