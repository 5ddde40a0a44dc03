/- The H layer, 10: code, and functions. -/
import Derived.Test.YtecnfekcflfihaaH13
namespace Go.Proofs.Ytecnfekcflfihaa.H
open Go.RowKit Go.MapKept
set_option linter.unusedVariables false
set_option linter.unusedSimpArgs false
variable {P : Program} {m : M} {s : HS} {w : World}

def codeDsts : Code → List Nat
  | .region _ ops _ => opsDsts ops
  | .seq a b => codeDsts a ++ codeDsts b
  | .cond _ a b => codeDsts a ++ codeDsts b
  | .block _ c => codeDsts c
  | .scope c => codeDsts c
  | .loop c => codeDsts c
  | _ => []
def setAll : List HV → List Nat → List HV → List HV
  | e, [], _ => e
  | e, t :: ts, xs => setAll (e.set t (xs.headD .junk)) ts xs.tail
def rebuild (env : List HV) (mods live : List Nat) (xs : List HV) : List HV := setAll (junkAll env mods) live xs
def getAll (env : List HV) (live : List Nat) : List HV := live.map fun t => env.getD t (.lit undef)
def Join (A : (List HV → HS → Prop) → Prop) (B : List HV → HS → Prop) : Prop := A B
def HLoop (F : List HV → HS → (List HV → HS → Prop) → Prop) (xs0 : List HV) (s0 : HS) : Prop :=
  ∃ (J : List HV → HS → Prop) (μ : List HV → HS → Nat), (∃ xs s, UpL xs0 s0 xs s ∧ J xs s) ∧ ∀ xs s, J xs s → F xs s fun xs' s' => ∃ xs'' s'', UpL xs' s' xs'' s'' ∧ J xs'' s'' ∧ μ xs'' s'' < μ xs s
abbrev HQ := Exit → List HV → HS → Prop
def hthen (K : List HV → HS → Prop) (Q : HQ) : HQ
  | .normal, env, s => K env s
  | e, env, s => Q e env s
def hblock (id : Nat) (Q : HQ) : HQ
  | .exit id', env, s => if id' = id then Q .normal env s else Q (.exit id') env s
  | e, env, s => Q e env s
def hscope (Q : HQ) : HQ
  | .goto _, _, _ => False
  | e, env, s => Q e env s
def setC (env : List HV) (c : Operand) (b : Bool) : List HV := match c with | .tmp t => env.set t (.lit (.bool b)) | _ => env
def hwp (P : Program) (ann : Nat → Option (List Nat)) : Nat → Code → HQ → List HV → HS → Prop
  | _, .skip, Q, env, s => Q .normal env s
  | _, .label _, Q, env, s => Q .normal env s
  | _, .region _ ops false, Q, env, s => hops P ops (Q .normal) (List.range ops.size) [] env s
  | _, .region _ ops true, Q, env, s => hdraw P ops (Q .normal) env s
  | p, .seq a b, Q, env, s =>
    match ann p with
    | none => hwp P ann (2 * p) a (hthen (hwp P ann (2 * p + 1) b Q) Q) env s
    | some live => Join (fun K => hwp P ann (2 * p) a (hthen (fun env' s' => K (getAll env' live) s') Q) env s) (fun xs s' => hwp P ann (2 * p + 1) b Q (rebuild env (codeDsts a) live xs) s')
  | p, .cond c x y, Q, env, s => hcond (hev env c) (hwp P ann (2 * p) x Q (setC env c true) s) (hwp P ann (2 * p + 1) y Q (setC env c false) s)
  | p, .block id c, Q, env, s => hwp P ann (2 * p) c (hblock id Q) env s
  | p, .scope c, Q, env, s => hwp P ann (2 * p) c (hscope Q) env s
  | _, .exit id, Q, env, s => Q (.exit id) env s
  | p, .loop c, Q, env, s =>
    match ann p with
    | none => False
    | some live => HLoop (fun xs s' K => hwp P ann (2 * p) c (hthen (fun env' s'' => K (getAll env' live) s'') Q) (rebuild env (codeDsts c) live xs) s') (getAll env live) s
  | _, .ret, Q, env, s => Q .ret env s
  | _, _, _, _, _ => False

abbrev FrS := Fr
def Post (m : M) (mods : List Nat) (a : Act) (Q : HQ) : Exit → Act → World → Prop := fun e a' w' =>
  ∃ m' env' s', M.le m m' ∧ Rel m' s' w' ∧ EnvRep m' env' a' ∧ FrS mods a a' ∧ env'.length = a.tmps.size ∧ Q e env' s'
theorem setAll_rep {a : Act} : ∀ (live : List Nat) (e xs : List HV), EnvRep m e a → RepsL m xs (live.map fun t => a.tmps.getD t undef) → EnvRep m (setAll e live xs) a
  | [], e, xs, h, _ => h
  | t :: ts, e, [], h, hx => by have := hx.1; simp at this
  | t :: ts, e, x :: xs, h, hx => by
    refine setAll_rep ts (e.set t x) xs ⟨by simp [h.size], fun k y hk => ?_, h.defers⟩ ⟨by have := hx.1; simpa using this, fun j y hj => by have := hx.2 (j + 1) y (by simpa using hj); simpa using this⟩
    by_cases hkt : t = k
    · subst hkt
      have hlt : t < e.length := by have := (List.getElem?_eq_some_iff.1 hk).1; simpa using this
      rw [List.getElem?_set_self hlt] at hk
      have hk' : x = y := Option.some.inj hk
      have := hx.2 0 x rfl
      rw [← hk']
      simpa using this
    · rw [List.getElem?_set_ne hkt] at hk
      exact h.rep k y hk
theorem getAll_rep {env' : List HV} {a : Act} (hE : EnvRep m env' a) (live : List Nat) : RepsL m (getAll env' live) (live.map fun t => a.tmps.getD t undef) := by
  refine ⟨by simp [getAll], fun j x hj => ?_⟩
  simp only [getAll, List.getElem?_map] at hj
  cases hl : live[j]? with
  | none => rw [hl] at hj; cases hj
  | some t =>
    rw [hl] at hj
    cases hj
    have : (live.map fun t => a.tmps.getD t undef).getD j undef = a.tmps.getD t undef := by simp [List.getD, hl]
    rw [this]
    exact hE.eval (.tmp t)
/-- What is known behind a piece of code. -/
theorem rebuild_rep {m' : M} {mods live : List Nat} {env xs : List HV} {a a' : Act} (hE : EnvRep m env a) (hm : M.le m m') (hd : a'.defers = []) (hx : RepsL m' xs (live.map fun t => a'.tmps.getD t undef)) (hF : FrS mods a a') : EnvRep m' (rebuild env mods live xs) a' := by
  refine setAll_rep live _ xs ⟨by rw [junk_len, hF.1, hE.size], fun t x ht => ?_, hd⟩ hx
  rcases junk_at mods env t x ht with rfl | ⟨h1, h2⟩
  · exact .junk _
  · rw [hF.2 t h1]
    exact (hE.rep t x h2).mono hm
theorem setAll_len : ∀ (live : List Nat) (e xs : List HV), (setAll e live xs).length = e.length
  | [], e, xs => rfl
  | t :: ts, e, xs => by
    show (setAll (e.set t (xs.headD .junk)) ts xs.tail).length = _
    rw [setAll_len ts]; simp
theorem rebuild_len (env : List HV) (mods live : List Nat) (xs : List HV) : (rebuild env mods live xs).length = env.length := by
  unfold rebuild; rw [setAll_len, junk_len]
theorem wp_loop' {c : Code} {Q : Exit → Act → World → Prop} {a : Act} (R : Nat → Act → World → Prop) (n : Nat) (h₀ : R n a w)
    (round : ∀ n a w, R n a w → c.wp P (Exit.then (fun a' w' => ∃ n', n' < n ∧ R n' a' w') Q) a w) : (Code.loop c).wp P Q a w := by
  intro b k cs
  have key : ∀ n a w, R n a w →
      ∃ e a' w', Q e a' w' ∧ Arrives P (lone (b.at a (.code c :: .inLoop c :: k)) cs w) b k cs e a' w' := by
    intro n
    induction n using Nat.strongRecOn with
    | _ n ih =>
      intro a w hI
      obtain ⟨e, a₁, w₁, hq, harr⟩ := round n a w hI b (.inLoop c :: k) cs
      cases e with
      | normal =>
        obtain ⟨n', hlt, hI₁⟩ := hq
        obtain ⟨e₂, a₂, w₂, hq₂, harr₂⟩ := ih n' hlt a₁ w₁ hI₁
        exact ⟨e₂, a₂, w₂, hq₂, .of_steps (Steps.trans harr (.one step_inLoop)) harr₂⟩
      | exit id => exact ⟨_, a₁, w₁, hq, .pass (x := .inLoop c) rfl (fun _ _ => .inl (by simp)) harr⟩
      | goto l => exact ⟨_, a₁, w₁, hq, .pass (x := .inLoop c) rfl (fun _ _ => .inl (by simp)) harr⟩
      | ret => exact ⟨_, a₁, w₁, hq, .pass (x := .inLoop c) rfl (fun _ _ => .inl (by simp)) harr⟩
      | panic ch => exact ⟨_, a₁, w₁, hq, .pass (x := .inLoop c) rfl (fun _ _ => .inl (by simp)) harr⟩
      | outgrown => exact ⟨_, a₁, w₁, hq, .pass (x := .inLoop c) rfl (fun _ _ => .inl (by simp)) harr⟩
  obtain ⟨e, a', w', hq, harr⟩ := key n a w h₀
  exact ⟨e, a', w', hq, .of_steps (.one step_loop) harr⟩
theorem hwp_ok {ann : Nat → Option (List Nat)} : ∀ (c : Code) (p : Nat) (Q : HQ) (env : List HV) (s : HS), hwp P ann p c Q env s → ∀ (m : M) (w : World) (a : Act), Rel m s w → EnvRep m env a →
    c.wp P (Post m (codeDsts c) a Q) a w
  | .skip, p, Q, env, s, h, m, w, a, hR, hE => wp_skip ⟨m, env, s, M.le.refl m, hR, hE, Fr.refl _ _, hE.size.symm, h⟩
  | .label l, p, Q, env, s, h, m, w, a, hR, hE => wp_label ⟨m, env, s, M.le.refl m, hR, hE, Fr.refl _ _, hE.size.symm, h⟩
  | .exit id, p, Q, env, s, h, m, w, a, hR, hE => wp_exit ⟨m, env, s, M.le.refl m, hR, hE, Fr.refl _ _, hE.size.symm, h⟩
  | .ret, p, Q, env, s, h, m, w, a, hR, hE => wp_ret ⟨m, env, s, M.le.refl m, hR, hE, Fr.refl _ _, hE.size.symm, h⟩
  | .region id ops false, p, Q, env, s, h, m, w, a, hR, hE => by
    refine wp_region (hops_ok _ _ _ _ m w a h hR hE (fun j b hj => by cases hj) ?_)
    intro m' env' s' a' w' h1 h2 h3 h4 h5
    exact ⟨m', env', s', h1, h2, h3, h4, by rw [← h3.size]; exact h4.1, h5⟩
  | .region id ops true, p, Q, env, s, h, m, w, a, hR, hE => by
    refine hdraw_ok h hR hE ?_
    intro m' env' s' a' w' h1 h2 h3 h4 h5
    exact ⟨m', env', s', h1, h2, h3, h4, by rw [← h3.size]; exact h4.1, h5⟩
  | .seq x y, p, Q, env, s, h, m, w, a, hR, hE => by
    refine wp_seq ?_
    unfold hwp at h
    split at h
    · refine wp_mono (hwp_ok x _ _ env s h m w a hR hE) ?_
      rintro e a' w' ⟨m', env', s', h1, h2, h3, h4, h5, h6⟩
      cases e with
      | normal =>
        refine wp_mono (hwp_ok y _ _ env' s' h6 m' w' a' h2 h3) ?_
        rintro e a'' w'' ⟨m'', env'', s'', g1, g2, g3, g4, g5, g6⟩
        exact ⟨m'', env'', s'', h1.trans g1, g2, g3, (h4.mono (fun t ht => List.mem_append_left _ ht)).trans (g4.mono (fun t ht => List.mem_append_right _ ht)), by rw [g5, h4.1], g6⟩
      | _ => exact ⟨m', env', s', h1, h2, h3, h4.mono (fun t ht => List.mem_append_left _ ht), h5, h6⟩
    · rename_i live hl
      refine wp_mono (hwp_ok x _ _ env s h m w a hR hE) ?_
      rintro e a' w' ⟨m', env', s', h1, h2, h3, h4, h5, h6⟩
      cases e with
      | normal =>
        refine wp_mono (hwp_ok y _ _ _ s' h6 m' w' a' h2 (rebuild_rep hE h1 h3.defers (getAll_rep h3 live) h4)) ?_
        rintro e a'' w'' ⟨m'', env'', s'', g1, g2, g3, g4, g5, g6⟩
        exact ⟨m'', env'', s'', h1.trans g1, g2, g3, (h4.mono (fun t ht => List.mem_append_left _ ht)).trans (g4.mono (fun t ht => List.mem_append_right _ ht)), by rw [g5, h4.1], g6⟩
      | _ => exact ⟨m', env', s', h1, h2, h3, h4.mono (fun t ht => List.mem_append_left _ ht), h5, h6⟩
  | .cond c x y, p, Q, env, s, h, m, w, a, hR, hE => by
    unfold hwp hcond at h
    have hsc : ∀ b, hev env c = .lit (.bool b) → EnvRep m (setC env c b) a := fun b hb => by
      unfold setC
      split
      · exact setSame hE hb
      · exact hE
    split at h
    · rename_i hb
      refine wp_cond_true (lit_or (hE.eval c) hb) ?_
      refine wp_mono (hwp_ok x _ _ _ s h m w a hR (hsc _ hb)) ?_
      rintro e a' w' ⟨m', env', s', h1, h2, h3, h4, h5, h6⟩
      exact ⟨m', env', s', h1, h2, h3, h4.mono (fun t ht => List.mem_append_left _ ht), h5, h6⟩
    · rename_i hb
      refine wp_cond_false (lit_or (hE.eval c) hb) ?_
      refine wp_mono (hwp_ok y _ _ _ s h m w a hR (hsc _ hb)) ?_
      rintro e a' w' ⟨m', env', s', h1, h2, h3, h4, h5, h6⟩
      exact ⟨m', env', s', h1, h2, h3, h4.mono (fun t ht => List.mem_append_right _ ht), h5, h6⟩
    · exact h.elim
  | .block id c, p, Q, env, s, h, m, w, a, hR, hE => by
    refine wp_block (wp_mono (hwp_ok c _ _ env s h m w a hR hE) ?_)
    rintro e a' w' ⟨m', env', s', h1, h2, h3, h4, h5, h6⟩
    cases e with
    | exit id' =>
      simp only [hblock] at h6
      simp only [Exit.inBlock]
      split
      · rename_i he; rw [if_pos he] at h6; exact ⟨m', env', s', h1, h2, h3, h4, h5, h6⟩
      · rename_i he; rw [if_neg he] at h6; exact ⟨m', env', s', h1, h2, h3, h4, h5, h6⟩
    | _ => exact ⟨m', env', s', h1, h2, h3, h4, h5, h6⟩
  | .loop c, p, Q, env, s, h, m, w, a, hR, hE => by
    unfold hwp at h
    split at h
    · exact h.elim
    · rename_i live hl
      obtain ⟨J, μ, ⟨xs0, s0, hup0, h0⟩, hr⟩ := h
      obtain ⟨m0, z1, z2, z3⟩ := hup0 m w _ hR (getAll_rep hE live)
      refine wp_loop' (fun n a' w' => ∃ m' xs s', M.le m m' ∧ Rel m' s' w' ∧ a'.defers = [] ∧ RepsL m' xs (live.map fun t => a'.tmps.getD t undef) ∧ FrS (codeDsts c) a a' ∧ J xs s' ∧ μ xs s' = n) (μ xs0 s0)
        ⟨m0, xs0, s0, z1, z2, hE.defers, z3, Fr.refl _ _, h0, rfl⟩ ?_
      rintro n a' w' ⟨m', xs, s', h1, h2, h3, h3', h4, h5, rfl⟩
      refine wp_mono (hwp_ok c _ _ _ s' (hr _ s' h5) m' w' a' h2 (rebuild_rep hE h1 h3 h3' h4)) ?_
      rintro e a'' w'' ⟨m'', env'', s'', g1, g2, g3, g4, g5, g6⟩
      cases e with
      | normal =>
        obtain ⟨xs3, s3, q1, q2, q3⟩ := g6
        obtain ⟨m3, y1, y2, y3⟩ := q1 m'' w'' _ g2 (getAll_rep g3 live)
        exact ⟨_, q3, m3, xs3, s3, (h1.trans g1).trans y1, y2, g3.defers, y3, h4.trans g4, q2, rfl⟩
      | _ => exact ⟨m'', env'', s'', h1.trans g1, g2, g3, h4.trans g4, by rw [g5, h4.1], g6⟩
  | .rangeFunc _ _ _ _, p, Q, env, s, h, m, w, a, hR, hE => h.elim
  | .scope c, p, Q, env, s, h, m, w, a, hR, hE => by
    refine wp_scope_straight (wp_mono (hwp_ok c _ _ env s h m w a hR hE) ?_)
    rintro e a' w' ⟨m', env', s', h1, h2, h3, h4, h5, h6⟩
    cases e with
    | goto l => exact h6.elim
    | _ => exact ⟨m', env', s', h1, h2, h3, h4, h5, h6⟩
  | .goto _, p, Q, env, s, h, m, w, a, hR, hE => h.elim
  | .refuse _, p, Q, env, s, h, m, w, a, hR, hE => h.elim

def hresult (P : Program) (s : HS) (env : List HV) : ResultVar → Option HV
  | .tmp t => some (env.getD t (.lit undef))
  | .cell p t => match tSize P t, tAgg P t with | some n, some ag => vLoad s (env.getD p (.lit undef)) n ag | _, _ => none
def hresK (P : Program) (s : HS) (env : List HV) : List ResultVar → (List HV → Prop) → Prop
  | [], K => K []
  | r :: rs, K => bindO (hresult P s env r) fun v => hresK P s env rs fun vs => K (v :: vs)
def hret : List HV → HV
  | [v] => v
  | vs => .tup vs
def hretQ (P : Program) (rs : List ResultVar) (Q : HV → HS → Prop) : HQ
  | .normal, env, s => hresK P s env rs fun vs => Q (hret vs) s
  | .ret, env, s => hresK P s env rs fun vs => Q (hret vs) s
  | _, _, _ => False
def resOf (tmps : Array Value) : ResultVar → Sem Value
  | .tmp t => pure (tmps.getD t undef)
  | .cell p t => do loadVar t (← asAddr (tmps.getD p undef))
theorem results_eq (fn : Func) (tmps : Array Value) : results fn tmps = (do let vs ← fn.results.mapM (resOf tmps); pure (if h : vs.size = 1 then vs[0] else .tuple vs)) := by
  unfold results
  congr 1
theorem hresult_ok {env : List HV} {a : Act} {r : ResultVar} {v : HV} (h : hresult P s env r = some v) (hR : Rel m s w) (hE : EnvRep m env a) :
    ∃ cv, (resOf a.tmps r).run P w = .ok cv w ∧ Rep m v cv := by
  cases r with
  | tmp t => simp only [hresult, Option.some.injEq] at h; subst h; exact ⟨_, rfl, hE.eval (.tmp t)⟩
  | cell p t =>
    simp only [hresult] at h
    split at h
    · rename_i n ag hn ha
      obtain ⟨cv, h1, h2⟩ := vLoad_ok (cp := a.tmps.getD p undef) hn ha h hR (hE.eval (.tmp p))
      refine ⟨cv, ?_, h2⟩
      obtain ⟨b, o, cs, vs, hp, -⟩ := place_ok h hR (hE.eval (.tmp p))
      have hp' : a.tmps.getD p undef = .pointer (some ⟨b, o, none⟩) := hp
      simp only [resOf]
      rw [hp'] at h1 ⊢
      exact h1
    · cases h
theorem hresK_ok {env : List HV} {a : Act} (hR : Rel m s w) (hE : EnvRep m env a) : ∀ {rs : List ResultVar} {K : List HV → Prop}, hresK P s env rs K →
    ∃ (cvs : List Value) (vs : List HV), (rs.mapM (resOf a.tmps)).run P w = .ok cvs w ∧ cvs.length = vs.length ∧ (∀ (j : Nat) x, vs[j]? = some x → Rep m x (cvs.getD j undef)) ∧ K vs
  | [], K, h => ⟨[], [], rfl, rfl, (fun j x hj => by simp at hj), h⟩
  | r :: rs, K, h => by
    simp only [hresK, bindO] at h
    split at h
    · rename_i v h1
      obtain ⟨cv, g1, g2⟩ := hresult_ok h1 hR hE
      obtain ⟨cvs, vs, q1, q2, q3, q4⟩ := hresK_ok hR hE h
      refine ⟨cv :: cvs, v :: vs, ?_, by simp [q2], (fun j x hj => ?_), q4⟩
      · rw [List.mapM_cons, rb g1, rb q1]; rfl
      · cases j with
        | zero => simp at hj; subst hj; exact g2
        | succ j => simp at hj; have := q3 j x hj; simpa using this
    · exact h.elim
/-- A function does what its code says. -/
theorem HC_of {f : FuncId} {fn : Func} {c : Code} {args : List HV} {Q : HV → HS → Prop} {ann : Nat → Option (List Nat)} (hf : P.funcs[f]? = some fn) (hb : fn.body = some c)
    (h : hwp P ann 1 c (hretQ P fn.results.toList Q) (args ++ List.replicate (fn.ntmps - args.length) (.lit undef)) s) : HC P f args s Q := by
  intro m w cargs hR hn ha
  refine calls_of_wp hf hb ?_
  have hE : EnvRep m (args ++ List.replicate (fn.ntmps - args.length) (.lit undef)) { tmps := cargs ++ Array.replicate (fn.ntmps - cargs.size) undef, defers := [] } := by
    refine ⟨by simp [hn], fun t x ht => ?_, rfl⟩
    by_cases hlt : t < args.length
    · rw [List.getElem?_append_left hlt] at ht
      have := ha t x ht
      have e : (cargs ++ Array.replicate (fn.ntmps - cargs.size) undef).getD t undef = cargs.getD t undef := by
        simp only [Array.getD_eq_getD_getElem?]
        rw [Array.getElem?_append_left (by omega)]
      rw [e]; exact this
    · rw [List.getElem?_append_right (by omega), List.getElem?_replicate] at ht
      split at ht
      · cases ht
        rename_i hlt2
        have e : (cargs ++ Array.replicate (fn.ntmps - cargs.size) undef).getD t undef = undef := by
          simp only [Array.getD_eq_getD_getElem?]
          rw [Array.getElem?_append_right (by omega), Array.getElem?_replicate]
          split <;> rfl
        rw [e]; exact .lit _
      · cases ht
  refine wp_mono (hwp_ok c 1 _ _ s h m w _ hR hE) ?_
  have fin : ∀ {m' : M} {env' : List HV} {s' : HS} {a' : Act} {w' : World}, M.le m m' → Rel m' s' w' → EnvRep m' env' a' → (hresK P s' env' fn.results.toList fun vs => Q (hret vs) s') →
      a'.defers = [] ∧ ∃ v, (results fn a'.tmps).run P w' = .ok v w' ∧ ∃ cv v' s'' m'', Ending.returned v = .returned cv ∧ M.le m m'' ∧ Rel m'' s'' w' ∧ Rep m'' v' cv ∧ Q v' s'' := by
    intro m' env' s' a' w' h1 h2 h3 hv
    obtain ⟨cvs, vs, g1, g2, g3, hq⟩ := hresK_ok h2 h3 hv
    refine ⟨h3.defers, ?_⟩
    have hrun : (results fn a'.tmps).run P w' = .ok (if h : cvs.toArray.size = 1 then cvs.toArray[0] else .tuple cvs.toArray) w' := by
      rw [results_eq]
      rw [Array.mapM_eq_mapM_toList]
      have g1' : (List.toArray <$> fn.results.toList.mapM (resOf a'.tmps)).run P w' = .ok cvs.toArray w' := by
        rw [map_eq_pure_bind, rb g1]; rfl
      rw [rb g1']; rfl
    refine ⟨_, hrun, _, hret vs, s', m', rfl, h1, h2, ?_, hq⟩
    cases cvs with
    | nil =>
      cases vs with
      | nil => exact .tup [] #[] rfl (fun j x hj => by simp at hj)
      | cons _ _ => simp at g2
    | cons cv cvs =>
      cases vs with
      | nil => simp at g2
      | cons v vs =>
        cases cvs with
        | nil =>
          cases vs with
          | nil => have := g3 0 v rfl; exact this
          | cons _ _ => simp at g2
        | cons cv2 cvs =>
          cases vs with
          | nil => simp at g2
          | cons v2 vs =>
            have e : (if h : (cv :: cv2 :: cvs).toArray.size = 1 then (cv :: cv2 :: cvs).toArray[0] else Value.tuple (cv :: cv2 :: cvs).toArray) = .tuple (cv :: cv2 :: cvs).toArray := by
              rw [dif_neg (by simp)]
            rw [e]
            refine .tup (v :: v2 :: vs) _ (by simpa using g2) (fun j x hj => ?_)
            have := g3 j x hj
            simpa [List.getD, Array.getD_eq_getD_getElem?] using this
  rintro e a' w' ⟨m', env', s', h1, h2, h3, h4, h5, h6⟩
  cases e with
  | normal => exact fin h1 h2 h3 h6
  | ret => exact fin h1 h2 h3 h6
  | _ => exact h6.elim
/-- A literal's value, its places written out. -/
def vMk (pl : List (Nat × Nat)) (zs : List HV) (parts : List (Nat × HV)) : Option HV := (hfill (fun i => pl.toArray[i]?) zs parts).map .agg
def hBS (s : HS) (sz n : Nat) (zs : List HV) (parts : List (Nat × HV)) (K : HV → HS → Prop) : Prop :=
  match hfill (fun i => some (i * sz, sz)) zs parts with
  | some cs => hNew s (.cells cs) (fun id => .view id 0 sz n true) K
  | none => False
theorem HC_by {f : FuncId} {fn : Func} {args : List HV} {Q : HV → HS → Prop} {ann : Nat → Option (List Nat)} (hf : P.funcs[f]? = some fn)
    (h : match fn.body with | some c => hwp P ann 1 c (hretQ P fn.results.toList Q) (args ++ List.replicate (fn.ntmps - args.length) (.lit undef)) s | none => False) : HC P f args s Q := by
  cases hb : fn.body with
  | none => rw [hb] at h; exact h.elim
  | some c => rw [hb] at h; exact HC_of hf hb h
/-- What is known in the end may be told otherwise. -/
theorem HC.up {f : FuncId} {args : List HV} {Q : HV → HS → Prop} (h : HC P f args s fun v s' => ∃ v' s'', UpL [v] s' [v'] s'' ∧ Q v' s'') : HC P f args s Q := by
  intro m w cargs hR hn ha
  refine (h m w cargs hR hn ha).mono ?_
  rintro e w' ⟨cv, v, s', m', h1, h2, h3, h4, v', s'', h5, h6⟩
  obtain ⟨m'', g1, g2, g3⟩ := h5 m' w' [cv] h3 ⟨rfl, fun j x hj => by cases j with | zero => simp at hj; subst hj; exact h4 | succ j => simp at hj⟩
  exact ⟨cv, v', s'', m'', h1, h2.trans g1, g2, g3.2 0 v' rfl, h6⟩
/-- So may the arguments. -/
theorem HC.upArgs {f : FuncId} {args args' : List HV} {s' : HS} {Q : HV → HS → Prop} (hu : UpL args s args' s') (h : HC P f args' s' Q) : HC P f args s Q := by
  intro m w cargs hR hn ha
  obtain ⟨m', g1, g2, g3, g4⟩ := hu m w cargs.toList hR ⟨by simpa using hn, fun j x hj => by have := ha j x hj; simpa [List.getD, Array.getD_eq_getD_getElem?] using this⟩
  refine (h m' w cargs g2 (by simpa using g3) (fun j x hj => by have := g4 j x hj; simpa [List.getD, Array.getD_eq_getD_getElem?] using this)).mono ?_
  rintro e w' ⟨cv, v, s'', m'', h1, h2, h3, h4, h5⟩
  exact ⟨cv, v, s'', m'', h1, g1.trans h2, h3, h4, h5⟩
theorem HC.weaken {f : FuncId} {args : List HV} {Q : HV → HS → Prop} (h : HC P f args s fun v s' => ∃ s'', HS.le s'' s' ∧ Q v s'') : HC P f args s Q :=
  HC.up (h.mono fun v s' ⟨s'', h1, h2⟩ => ⟨v, s'', UpL.le [v] h1, h2⟩)
/-- An object that is not written any more is a list. -/
theorem UpL.freeze {ys zs : List HV} {id off sz n : Nat} {full full' : Bool} {cs : List HV} (hff : full' = true → full = true) (hs : s id = some (.cells cs)) (hle : off + n * sz ≤ cs.length) :
    UpL (ys ++ .view id off sz n full :: zs) s (ys ++ .list sz n ((cs.drop off).take (n * sz)) full' :: zs) (s.del id) := by
  intro m w cvs hR hr
  have hmid := hr.2 ys.length (.view id off sz n full) (by simp)
  have other : ∀ {m' : M} {v' : HV}, M.le m m' → Rep m' v' (cvs.getD ys.length undef) → RepsL m' (ys ++ v' :: zs) cvs := by
    intro m' v' hm hv
    refine ⟨by have := hr.1; simpa using this, fun j x hj => ?_⟩
    by_cases hlt : j < ys.length
    · rw [List.getElem?_append_left hlt] at hj
      exact (hr.2 j x (by rw [List.getElem?_append_left hlt]; exact hj)).mono hm
    · by_cases heq : j = ys.length
      · subst heq
        rw [List.getElem?_append_right (Nat.le_refl _)] at hj
        simp at hj; subst hj; exact hv
      · rw [List.getElem?_append_right (by omega)] at hj
        obtain ⟨k, hk⟩ : ∃ k, j - ys.length = k + 1 := ⟨j - ys.length - 1, by omega⟩
        refine (hr.2 j x ?_).mono hm
        rw [hk] at hj
        rw [List.getElem?_append_right (by omega), hk]
        simpa using hj
  generalize cvs.getD ys.length undef = cv at hmid other
  cases hmid with
  | view0 _ _ _ _ a =>
    refine ⟨m, M.le.refl m, hR.weaken (le_del s id), other (M.le.refl m) ?_⟩
    simp only [Nat.zero_mul, List.take_zero]
    exact .list0 _ _ _ _ (fun _ => rfl)
  | view _ _ _ _ _ cap l hl hn hf hlim =>
    obtain ⟨h0, c, t, fr, h1, h2, h3, h4, h5⟩ := hR.objs _ _ _ hs hl
    have hnc := (hR.own _ _ _ hs hl).2
    have hm : M.le m { m with com := fun b o => if b = l.b then c[o]? else m.com b o } := by
      refine ⟨rfl, fun b o v hv => ?_, fun _ _ h => h, rfl, fun _ _ => rfl⟩
      show (if b = l.b then c[o]? else m.com b o) = some v
      rw [if_neg (fun e => by rw [e, hnc] at hv; cases hv)]; exact hv
    refine ⟨_, hm, ⟨hR.below, fun b o v hv => ?_, fun k ob l' hk hl' => ?_, fun k ob l' hk hl' => ?_, fun a b oa ob la lb ha hb hla hlb hab => ?_, ?_⟩, other hm ?_⟩
    · simp only at hv
      split at hv
      · rename_i e; subst e
        simp only [World.cell?, h1]
        simpa using hv
      · exact hR.com b o v hv
    · simp only [HS.del] at hk
      split at hk
      · cases hk
      · exact (hR.objs _ _ _ hk hl').mono hm
    · simp only [HS.del] at hk
      split at hk
      · cases hk
      · rename_i hne
        obtain ⟨g1, g2⟩ := hR.own _ _ _ hk hl'
        refine ⟨g1, fun o => ?_⟩
        show (if l'.b = l.b then c[o]? else m.com l'.b o) = none
        rw [if_neg (fun e => hne (hR.inj k id _ _ l' l hk hs hl' hl e))]
        exact g2 o
    · simp only [HS.del] at ha hb
      split at ha
      · cases ha
      · split at hb
        · cases hb
        · exact hR.inj a b oa ob la lb ha hb hla hlb hab
    · obtain ⟨N, hN⟩ := hR.fin
      exact ⟨N, fun k hk => ⟨by simp only [HS.del]; split; rfl; exact (hN k hk).1, (hN k hk).2⟩⟩
    · refine .list sz n _ full' cap l.b (l.base + off) (fun j => c.getD (l.base + off + j) undef) hn (fun h => hf (hff h)) (by simp; omega) (fun x hx => h0 x (List.mem_of_mem_drop (List.mem_of_mem_take hx))) (fun j hj => ?_) (fun j x hj => ?_)
      · show (if l.b = l.b then c[l.base + off + j]? else _) = _
        rw [if_pos rfl]
        have hlt : l.base + off + j < c.size := by simp at hj; omega
        simp [Array.getD, hlt]
      · have hlt : j < n * sz := by have := (List.getElem?_eq_some_iff.1 hj).1; simp at this; omega
        rw [List.getElem?_take, if_pos hlt, List.getElem?_drop] at hj
        have := (h5 _ _ hj).mono hm
        rw [show l.base + (off + j) = l.base + off + j from by omega] at this
        exact this
end Go.Proofs.Ytecnfekcflfihaa.H
