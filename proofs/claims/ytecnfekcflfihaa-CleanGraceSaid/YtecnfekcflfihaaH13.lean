/- The H layer, 13: the drawn order. -/
import Derived.Test.YtecnfekcflfihaaH12
namespace Go.Proofs.Ytecnfekcflfihaa.H
open Go.RowKit Go.MapKept
set_option linter.unusedVariables false
set_option linter.unusedSimpArgs false
variable {P : Program} {m : M} {s : HS} {w : World} {ops : Array Oper}

def junkAll (env : List HV) (mods : List Nat) : List HV := mods.foldl (fun e t => e.set t .junk) env
theorem junk_at : ∀ (mods : List Nat) (env : List HV) (t : Nat) (x : HV), (junkAll env mods)[t]? = some x → x = .junk ∨ (t ∉ mods ∧ env[t]? = some x)
  | [], env, t, x, h => .inr ⟨by simp, h⟩
  | k :: mods, env, t, x, h => by
    rcases junk_at mods (env.set k .junk) t x h with h1 | ⟨h1, h2⟩
    · exact .inl h1
    · by_cases hkt : k = t
      · subst hkt
        have hlt : k < (env.set k .junk).length := (List.getElem?_eq_some_iff.1 h2).1
        rw [List.getElem?_set_self (by simpa using hlt)] at h2
        exact .inl (Option.some.inj h2).symm
      · rw [List.getElem?_set_ne hkt] at h2
        exact .inr ⟨by simp [h1]; exact fun e => hkt e.symm, h2⟩
theorem junk_len : ∀ (mods : List Nat) (env : List HV), (junkAll env mods).length = env.length
  | [], env => rfl
  | k :: mods, env => by
    show (junkAll (env.set k .junk) mods).length = _
    rw [junk_len mods]; simp
theorem junk_other : ∀ (mods : List Nat) (env : List HV) (t : Nat), t ∉ mods → (junkAll env mods)[t]? = env[t]?
  | [], env, t, _ => rfl
  | k :: mods, env, t, h => by
    show (junkAll (env.set k .junk) mods)[t]? = _
    rw [junk_other mods _ t (fun h' => h (.tail _ h'))]
    exact List.getElem?_set_ne (fun (e : k = t) => h (List.mem_cons.2 (.inl e.symm)))

structure Sim (P : Program) (ops : Array Oper) (L W : List Nat) (env : List HV) (s : HS) (C : Array Bool) (m : M) (w : World) (a : Act) : Prop where
  size : C.size = ops.size
  closed : ∀ k, Lst C k → ∀ i ∈ waits ops k, Lst C i
  sub : ∀ j, Lst C j → j ∈ L
  done : ∀ j ∈ L, j ∉ W → Lst C j
  ord : Ord ops L
  wsub : ∀ i ∈ W, i ∈ L
  rel : Rel m s w
  len : a.tmps.size = env.length
  defers : a.defers = []
  rep : ∀ t x, env[t]? = some x → (∀ i ∈ W, ¬ Lst C i → dstOf ops i ≠ some t) → Rep m x (a.tmps.getD t undef)
  early : ∀ i ∈ W, ¬ Lst C i → ∃ o v, ops[i]? = some o ∧ isEff P o.op = false ∧ EOK P ops o env s v ∧ ∀ d, o.dst = some d → d < env.length → env[d]? = some v
  pair : ∀ i ∈ W, ∀ k ∈ W, ∀ d, dstOf ops i = some d → (d ∈ looks ops k → i ≠ k ∧ reachD ops i ops.size k = true) ∧ (i ≠ k → dstOf ops k ≠ some d)

open Classical in
noncomputable def openD (ops : Array Oper) (W : List Nat) (C : Array Bool) : List Nat := (W.filter fun i => ¬ Lst C i).filterMap (dstOf ops)
theorem mem_openD {W : List Nat} {C : Array Bool} {t : Nat} : t ∈ openD ops W C ↔ ∃ i ∈ W, ¬ Lst C i ∧ dstOf ops i = some t := by
  unfold openD
  simp [List.mem_filterMap, List.mem_filter, and_assoc]
theorem Sim.junked {L W : List Nat} {env : List HV} {C : Array Bool} {a : Act} (h : Sim P ops L W env s C m w a) : EnvRep m (junkAll env (openD ops W C)) a := by
  refine ⟨by rw [junk_len, h.len], fun t x hx => ?_, h.defers⟩
  rcases junk_at _ _ _ _ hx with rfl | ⟨h1, h2⟩
  · exact .junk _
  · exact h.rep t x h2 (fun i hi hl hd => h1 (mem_openD.2 ⟨i, hi, hl, hd⟩))
theorem hev_junk {mods : List Nat} {env : List HV} {t : Nat} (h : t ∉ mods) : hev (junkAll env mods) (.tmp t) = hev env (.tmp t) := by
  simp only [hev, List.getD, junk_other mods env t h]
/-- What k looks at has been carried out. -/
theorem Sim.looked {L W : List Nat} {env : List HV} {C : Array Bool} {a : Act} (h : Sim P ops L W env s C m w a) {k : Nat} (hk : ∀ i ∈ waits ops k, Lst C i)
    (hr : ∀ i ∈ W, ¬ Lst C i → ∀ d, dstOf ops i = some d → d ∈ looks ops k → reachD ops i ops.size k = true) : ∀ t ∈ looks ops k, hev (junkAll env (openD ops W C)) (.tmp t) = hev env (.tmp t) := by
  intro t ht
  refine hev_junk fun hm => ?_
  obtain ⟨i, hi, hl, hd⟩ := mem_openD.1 hm
  exact hl (reach_lst h.closed ops.size k (hr i hi hl t hd ht) hk)
theorem wanted_of {env : List HV} {o : Oper} {a : Act} {b : Bool} (hE : EnvRep m env a) (h : WantH ops env o b) : Region.wanted o (yielded ops a.tmps) = b := by
  unfold WantH at h
  unfold Region.wanted
  cases hg : o.guard with
  | none => rw [hg] at h; exact h.symm
  | some p =>
    obtain ⟨j, want⟩ := p
    rw [hg] at h
    obtain ⟨g1, g2⟩ := gval_ok (ops := ops) (j := j) hE
    simp only at h ⊢
    cases b with
    | true =>
      simp only [if_true] at h
      rw [g1 want h]; simp
    | false =>
      simp only [Bool.false_eq_true, if_false] at h
      rcases h with h | ⟨vs, h⟩
      · rw [g1 _ h]; cases want <;> rfl
      · rw [g2 vs h]; rfl
theorem dst_of {k : Nat} {o : Oper} (ho : ops[k]? = some o) : dstOf ops k = o.dst := by unfold dstOf; rw [ho]; rfl
/-- An early operation comes up. -/
theorem step_early {L W : List Nat} {env : List HV} {C : Array Bool} {a : Act} {j : Nat} {next : Act → World → Prop} {Q : Exit → Act → World → Prop} (h : Sim P ops L W env s C m w a) (hj : j ∈ Region.ready .any ops C) (hjL : j ∈ L)
    (hn : ∀ cv, Sim P ops L W env s (C.setIfInBounds j true) m w (a.put (dstOf ops j) cv) → next (a.put (dstOf ops j) cv) w) : wpOp P ops Q j next a w := by
  obtain ⟨hlt, hjl, hjw⟩ := (ready_iff h.size).1 hj
  have hjW : j ∈ W := by
    by_cases hw : j ∈ W
    · exact hw
    · exact absurd (h.done j hjL hw) hjl
  obtain ⟨o, v, ho, hne, hok, hd⟩ := h.early j hjW hjl
  have hEJ := h.junked
  have hlook := h.looked (k := j) hjw (fun i hi hl d hdi hdl => ((h.pair i hi j hjW d hdi).1 hdl).2)
  have hokJ := hok.congr ho hlook
  have hdst := dst_of ho
  have hinv : ∀ cv, Rep m v cv → Sim P ops L W env s (C.setIfInBounds j true) m w (a.put (dstOf ops j) cv) := by
    intro cv hcv
    have hls : ∀ i, Lst (C.setIfInBounds j true) i ↔ i = j ∨ Lst C i := fun i => lst_set (by rw [h.size]; exact hlt)
    refine ⟨by simp [h.size], fun k hk i hi => ?_, fun k hk => ?_, fun k hk hw => (hls k).2 (.inr (h.done k hk hw)), h.ord, h.wsub, h.rel, by rw [← h.len]; cases dstOf ops j <;> simp [Act.put], by rw [← h.defers]; cases dstOf ops j <;> rfl, ?_, ?_, h.pair⟩
    · rcases (hls k).1 hk with rfl | hk
      · exact (hls i).2 (.inr (hjw i hi))
      · exact (hls i).2 (.inr (h.closed k hk i hi))
    · rcases (hls k).1 hk with rfl | hk
      · exact hjL
      · exact h.sub k hk
    · intro t x hx ht
      by_cases htd : dstOf ops j = some t
      · have hlt2 : t < env.length := (List.getElem?_eq_some_iff.1 hx).1
        have hx2 := hd t (by rw [← hdst]; exact htd) hlt2
        rw [hx] at hx2; cases hx2
        rw [htd]
        have : (a.put (some t) cv).tmps.getD t undef = cv := by simp [Act.put, h.len, hlt2]
        rw [this]; exact hcv
      · have h1 := h.rep t x hx (fun i hi hl hdi => by
          by_cases hij : i = j
          · subst hij; exact htd hdi
          · exact ht i hi (fun hl' => by rcases (hls i).1 hl' with h | h; exact hij h; exact hl h) hdi)
        have : (a.put (dstOf ops j) cv).tmps.getD t undef = a.tmps.getD t undef := by
          cases hdd : dstOf ops j with
          | none => rfl
          | some d =>
            have hne : d ≠ t := fun e => htd (by rw [hdd, e])
            simp [Act.put, Array.getElem?_setIfInBounds_ne hne]
        rw [this]; exact h1
    · intro i hi hl
      exact h.early i hi (fun hl' => hl ((hls i).2 (.inr hl')))
  unfold wpOp
  rw [ho]
  simp only
  rcases hokJ with ⟨h1, h2⟩ | ⟨h1, rfl⟩
  · rw [if_pos (wanted_of hEJ h1)]
    obtain ⟨cv, h3, h4⟩ := hval_ok h2 h.rel hEJ
    exact .inl (upon_ok h3 (by rw [← hdst]; exact hn cv (hinv cv h4)))
  · rw [if_neg (by rw [wanted_of hEJ h1]; exact Bool.false_ne_true)]
    rw [← hdst]
    exact hn undef (hinv undef (.lit _))
theorem watch_mem {env : List HV} {s' : HS} {R : Prop} : ∀ {W : List Nat}, watchOK P ops env s s' W R → (∀ i ∈ W, ∀ o, ops[i]? = some o → isRead o.op = true → hval P o.op env s' = hval P o.op env s) ∧ R
  | [], h => ⟨fun i hi => by simp at hi, h⟩
  | k :: W, h => by
    unfold watchOK at h
    cases ho : ops[k]? with
    | none =>
      rw [ho] at h
      obtain ⟨h1, h2⟩ := watch_mem h
      refine ⟨fun i hi o hio hr => ?_, h2⟩
      rcases List.mem_cons.1 hi with rfl | hi
      · rw [ho] at hio; cases hio
      · exact h1 i hi o hio hr
    | some o' =>
      rw [ho] at h
      simp only at h
      split at h
      · obtain ⟨h0, h⟩ := h
        obtain ⟨h1, h2⟩ := watch_mem h
        refine ⟨fun i hi o hio hr => ?_, h2⟩
        rcases List.mem_cons.1 hi with rfl | hi
        · rw [ho] at hio; cases hio; exact h0
        · exact h1 i hi o hio hr
      · rename_i hnr
        obtain ⟨h1, h2⟩ := watch_mem h
        refine ⟨fun i hi o hio hr => ?_, h2⟩
        rcases List.mem_cons.1 hi with rfl | hi
        · rw [ho] at hio; cases hio; exact absurd hr hnr
        · exact h1 i hi o hio hr
theorem mem_keepW {W : List Nat} {k i : Nat} : i ∈ keepW ops W k ↔ i ∈ W ∧ reachD ops i ops.size k = false := by
  unfold keepW; simp [List.mem_filter]
/-- A late operation comes up. -/
theorem step_late {L W : List Nat} {kn : Known} {env : List HV} {C : Array Bool} {a : Act} {k : Nat} {o : Oper} {R : Known → List HV → HS → Prop} {next : Act → World → Prop} {Q : Exit → Act → World → Prop} (h : Sim P ops L W env s C m w a)
    (hk : k ∈ Region.ready .any ops C) (hkL : k ∉ L) (ho : ops[k]? = some o) (hkn : KnownH ops env kn) (hc : (W.all (fun i => reads ops i k) && (keepW ops W k).all fun i => bears ops i k) = true)
    (hs : hstep P ops k o kn env s fun kn' env' s' => watchOK P ops env s s' (keepW ops W k) (R kn' env' s'))
    (hn : ∀ m' w' s' kn' v cv, M.le m m' → KnownH ops (hput env o.dst v) kn' → R kn' (hput env o.dst v) s' → Sim P ops (k :: L) (keepW ops W k) (hput env o.dst v) s' (C.setIfInBounds k true) m' w' (a.put o.dst cv) → next (a.put o.dst cv) w') :
    wpOp P ops Q k next a w := by
  obtain ⟨hlt, hkl, hkw⟩ := (ready_iff h.size).1 hk
  rw [Bool.and_eq_true, List.all_eq_true, List.all_eq_true] at hc
  obtain ⟨hc1, hc2⟩ := hc
  have hdst := dst_of ho
  have hEJ := h.junked
  have hlook := h.looked (k := k) hkw (fun i hi hl d hdi hdl => by
    have := hc1 i hi
    unfold reads at this
    rw [hdi] at this
    simp only [Bool.or_eq_true, Bool.not_eq_true', List.contains_eq_mem, decide_eq_false_iff_not] at this
    exact this.resolve_left (fun h' => h' hdl))
  have hb : ∀ i ∈ keepW ops W k, (∀ d, o.dst = some d → d ∉ looks ops i ∧ dstOf ops i ≠ some d) ∧ (∀ d, dstOf ops i = some d → d ∈ looks ops k → reachD ops i ops.size k = true) := by
    intro i hi
    have := hc2 i hi
    unfold bears at this
    rw [hdst, Bool.and_eq_true] at this
    refine ⟨fun d hd => ?_, fun d hd hl => ?_⟩
    · have h1 := this.1
      rw [hd] at h1
      simp only [Bool.and_eq_true, Bool.not_eq_true', List.contains_eq_mem, decide_eq_false_iff_not, bne_iff_ne, ne_eq] at h1
      exact h1
    · have h1 := this.2
      rw [hd] at h1
      simp only [Bool.or_eq_true, Bool.not_eq_true', List.contains_eq_mem, decide_eq_false_iff_not] at h1
      exact h1.resolve_left (fun h' => h' hl)
  have hls : ∀ i, Lst (C.setIfInBounds k true) i ↔ i = k ∨ Lst C i := fun i => lst_set (by rw [h.size]; exact hlt)
  have hinv : ∀ m' w' s' v cv, M.le m m' → Rel m' s' w' → Rep m' v cv → (∀ i ∈ keepW ops W k, ∀ o, ops[i]? = some o → isRead o.op = true → hval P o.op env s' = hval P o.op env s) →
      Sim P ops (k :: L) (keepW ops W k) (hput env o.dst v) s' (C.setIfInBounds k true) m' w' (a.put o.dst cv) := by
    intro m' w' s' v cv hm hR hv hwat
    refine ⟨by simp [h.size], fun q hq i hi => ?_, fun q hq => ?_, fun q hq hw => ?_, ⟨hlt, hkL, fun i hi => h.sub i (hkw i hi), h.ord⟩, fun i hi => .tail _ (h.wsub i (mem_keepW.1 hi).1), hR, by
      have := h.len
      cases o.dst <;> simp [Act.put, hput, this], by rw [← h.defers]; cases o.dst <;> rfl, ?_, ?_, fun i hi q hq => h.pair i (mem_keepW.1 hi).1 q (mem_keepW.1 hq).1⟩
    · rcases (hls q).1 hq with rfl | hq
      · exact (hls i).2 (.inr (hkw i hi))
      · exact (hls i).2 (.inr (h.closed q hq i hi))
    · rcases (hls q).1 hq with rfl | hq
      · exact .head _
      · exact .tail _ (h.sub q hq)
    · rcases List.mem_cons.1 hq with rfl | hq
      · exact (hls q).2 (.inl rfl)
      · by_cases hqW : q ∈ W
        · have hr : reachD ops q ops.size k = true := by
            by_cases hr : reachD ops q ops.size k = true
            · exact hr
            · exact absurd (mem_keepW.2 ⟨hqW, by simpa using hr⟩) hw
          exact (hls q).2 (.inr (reach_lst h.closed ops.size k hr hkw))
        · exact (hls q).2 (.inr (h.done q hq hqW))
    · intro t x hx ht
      by_cases htd : o.dst = some t
      · rw [htd] at hx ⊢
        have hlt2 : t < env.length := by have := (List.getElem?_eq_some_iff.1 hx).1; simpa [hput] using this
        simp only [hput] at hx
        rw [List.getElem?_set_self hlt2] at hx
        cases hx
        have : (a.put (some t) cv).tmps.getD t undef = cv := by simp [Act.put, h.len, hlt2]
        rw [this]; exact hv
      · have hx' : env[t]? = some x := by
          cases hdd : o.dst with
          | none => rw [hdd] at hx; exact hx
          | some d =>
            have hne : d ≠ t := fun e => htd (by rw [hdd, e])
            rw [hdd] at hx; simp only [hput] at hx
            rwa [List.getElem?_set_ne hne] at hx
        have h1 := h.rep t x hx' (fun i hi hl hdi => by
          by_cases hik : i ∈ keepW ops W k
          · exact ht i hik (fun hl' => by rcases (hls i).1 hl' with h' | h'; exact hkL (h' ▸ h.wsub i hi); exact hl h') hdi
          · have hr : reachD ops i ops.size k = true := by
              by_cases hr : reachD ops i ops.size k = true
              · exact hr
              · exact absurd (mem_keepW.2 ⟨hi, by simpa using hr⟩) hik
            exact hl (reach_lst h.closed ops.size k hr hkw))
        have : (a.put o.dst cv).tmps.getD t undef = a.tmps.getD t undef := by
          cases hdd : o.dst with
          | none => rfl
          | some d =>
            have hne : d ≠ t := fun e => htd (by rw [hdd, e])
            simp [Act.put, Array.getElem?_setIfInBounds_ne hne]
        rw [this]; exact h1.mono hm
    · intro i hi hl
      obtain ⟨o', u, ho', hne, hok, hd⟩ := h.early i (mem_keepW.1 hi).1 (fun hl' => hl ((hls i).2 (.inr hl')))
      have hbi := (hb i hi).1
      refine ⟨o', u, ho', hne, ?_, fun d hd' hlt2 => ?_⟩
      · have hcg : ∀ t ∈ looks ops i, hev (hput env o.dst v) (.tmp t) = hev env (.tmp t) := fun t ht => hev_put fun t' ht' => by
          intro e
          cases e
          exact (hbi t ht').1 ht
        refine EOK.congr ho' hcg ?_
        rcases hok with ⟨h1, h2⟩ | ⟨h1, h2⟩
        · refine .inl ⟨h1, ?_⟩
          cases hrd : isRead o'.op with
          | true => rw [hwat i hi o' ho' hrd]; exact h2
          | false => rw [hval_pure (s' := s) hrd]; exact h2
        · exact .inr ⟨h1, h2⟩
      · have hlt3 : d < env.length := by cases hdd : o.dst <;> (rw [hdd] at hlt2; simpa [hput] using hlt2)
        have h3 := hd d hd' hlt3
        cases hdd : o.dst with
        | none => exact h3
        | some q =>
          have hne2 : q ≠ d := fun e => (hbi q hdd).2 (by rw [dst_of ho', hd', e])
          simp only [hput]
          rw [List.getElem?_set_ne hne2]; exact h3
  unfold wpOp
  rw [ho]
  simp only
  rcases hstep_cases ho hs hkn with ⟨h1, kn', hk1, h2⟩ | ⟨h1, kn', hk1, h2⟩
  · rw [if_pos (wanted_of hEJ (h1.congr ho hlook))]
    rw [← hdo_congr o (ops_congr ho hlook)] at h2
    refine .inl (hdo_ok h2 h.rel hEJ fun m' w' s' v cv g1 g2 g3 g4 => ?_)
    obtain ⟨q1, q2⟩ := watch_mem g4
    exact hn m' w' s' _ v cv g1 (hk1.forget o.dst v) q2 (hinv m' w' s' v cv g1 g2 g3 q1)
  · rw [if_neg (by rw [wanted_of hEJ (h1.congr ho hlook)]; exact Bool.false_ne_true)]
    obtain ⟨q1, q2⟩ := watch_mem h2
    exact hn m w s _ (.lit undef) undef (M.le.refl m) hk1 q2 (hinv m w s _ _ (M.le.refl m) h.rel (.lit _) q1)

/-- An early operation is taken. -/
theorem sim_early {L W : List Nat} {env : List HV} {C : Array Bool} {a : Act} {k : Nat} {o : Oper} {v : HV} (h : Sim P ops L W env s C m w a) (hk : k ∈ readyD ops L) (ho : ops[k]? = some o) (he : isEff P o.op = false)
    (hc : (selfOK ops k && W.all fun i => bears ops i k) = true) (hok : EOK P ops o env s v) : Sim P ops (k :: L) (k :: W) (hput env o.dst v) s C m w a := by
  obtain ⟨hlt, hkL, hkw⟩ := mem_readyD.1 hk
  have hkC : ¬ Lst C k := fun hl => hkL (h.sub k hl)
  rw [Bool.and_eq_true, List.all_eq_true] at hc
  have hdst := dst_of ho
  have hself : ∀ d, o.dst = some d → d ∉ looks ops k := by
    intro d hd
    have := hc.1
    unfold selfOK at this
    rw [hdst, hd] at this
    simpa using this
  have hb : ∀ i ∈ W, (∀ d, o.dst = some d → d ∉ looks ops i ∧ dstOf ops i ≠ some d) ∧ (∀ d, dstOf ops i = some d → d ∈ looks ops k → reachD ops i ops.size k = true) := by
    intro i hi
    have := hc.2 i hi
    unfold bears at this
    rw [hdst, Bool.and_eq_true] at this
    refine ⟨fun d hd => ?_, fun d hd hl => ?_⟩
    · have h1 := this.1
      rw [hd] at h1
      simp only [Bool.and_eq_true, Bool.not_eq_true', List.contains_eq_mem, decide_eq_false_iff_not, bne_iff_ne, ne_eq] at h1
      exact h1
    · have h1 := this.2
      rw [hd] at h1
      simp only [Bool.or_eq_true, Bool.not_eq_true', List.contains_eq_mem, decide_eq_false_iff_not] at h1
      exact h1.resolve_left (fun h' => h' hl)
  have hne : ∀ i ∈ W, i ≠ k := fun i hi e => hkL (e ▸ h.wsub i hi)
  have hcg : ∀ q, (∀ d, o.dst = some d → d ∉ looks ops q) → ∀ t ∈ looks ops q, hev (hput env o.dst v) (.tmp t) = hev env (.tmp t) := fun q hq t ht => hev_put fun t' ht' => by
    intro e
    cases e
    exact hq t ht' ht
  refine ⟨h.size, h.closed, fun j hj => .tail _ (h.sub j hj), fun j hj hw => ?_, ⟨hlt, hkL, hkw, h.ord⟩, fun i hi => ?_, h.rel, by rw [h.len]; cases o.dst <;> simp [hput], h.defers, fun t x hx ht => ?_, fun i hi hl => ?_, fun i hi q hq d hd => ?_⟩
  · rcases List.mem_cons.1 hj with rfl | hj
    · exact absurd (.head _) hw
    · exact h.done j hj (fun h' => hw (.tail _ h'))
  · rcases List.mem_cons.1 hi with rfl | hi
    · exact .head _
    · exact .tail _ (h.wsub i hi)
  · have htd : o.dst ≠ some t := fun e => ht k (.head _) hkC (by rw [hdst, e])
    have hx' : env[t]? = some x := by
      cases hdd : o.dst with
      | none => rw [hdd] at hx; exact hx
      | some d =>
        have hne : d ≠ t := fun e => htd (by rw [hdd, e])
        rw [hdd] at hx; simp only [hput] at hx
        rwa [List.getElem?_set_ne hne] at hx
    exact h.rep t x hx' (fun i hi hl => ht i (.tail _ hi) hl)
  · rcases List.mem_cons.1 hi with rfl | hi
    · refine ⟨o, v, ho, he, hok.congr ho (hcg i hself), fun d hd hlt2 => ?_⟩
      rw [hd] at hlt2 ⊢
      simp only [hput] at hlt2 ⊢
      rw [List.getElem?_set_self (by simpa using hlt2)]
    · obtain ⟨o', u, ho', hne', hok', hd'⟩ := h.early i hi hl
      have hbi := (hb i hi).1
      refine ⟨o', u, ho', hne', hok'.congr ho' (hcg i (fun d hd => (hbi d hd).1)), fun d hd hlt2 => ?_⟩
      have hlt3 : d < env.length := by cases hdd : o.dst <;> (rw [hdd] at hlt2; simpa [hput] using hlt2)
      have h3 := hd' d hd hlt3
      cases hdd : o.dst with
      | none => exact h3
      | some q =>
        have hne2 : q ≠ d := fun e => (hbi q hdd).2 (by rw [dst_of ho', hd, e])
        simp only [hput]
        rw [List.getElem?_set_ne hne2]; exact h3
  · rcases List.mem_cons.1 hi with hik | hi'
    · subst hik
      rw [hdst] at hd
      rcases List.mem_cons.1 hq with hqk | hq'
      · subst hqk
        exact ⟨fun hl => absurd hl (hself d hd), fun h' => absurd rfl h'⟩
      · have := (hb q hq').1 d hd
        exact ⟨fun hl => absurd hl this.1, fun _ => this.2⟩
    · rcases List.mem_cons.1 hq with hqk | hq'
      · subst hqk
        have := hb i hi'
        exact ⟨fun hl => ⟨hne i hi', this.2 d hd hl⟩, fun _ hqd => (this.1 d (by rw [← hdst]; exact hqd)).2 hd⟩
      · exact h.pair i hi' q hq' d hd
def cnt (ops : Array Oper) (C : Array Bool) : Nat := ((List.range ops.size).filter fun k => !C.getD k false).length
theorem filter_lt {p q : Nat → Bool} (hpq : ∀ x, q x = true → p x = true) : ∀ {l : List Nat} {x : Nat}, x ∈ l → p x = true → q x = false → (l.filter q).length < (l.filter p).length
  | [], x, h, _, _ => by simp at h
  | y :: l, x, h, hp, hq => by
    have hle : ∀ l : List Nat, (l.filter q).length ≤ (l.filter p).length := by
      intro l
      induction l with
      | nil => exact Nat.le_refl _
      | cons z l ih =>
        simp only [List.filter_cons]
        cases hz : q z
        · simp only [Bool.false_eq_true, if_false]
          split
          · simp; omega
          · exact ih
        · simp only [hz, hpq z hz, if_true, List.length_cons]; omega
    rcases List.mem_cons.1 h with rfl | h
    · simp only [List.filter_cons, hp, hq, if_true, Bool.false_eq_true, if_false, List.length_cons]
      have := hle l; omega
    · have ih := filter_lt hpq h hp hq
      simp only [List.filter_cons]
      cases hz : q y
      · simp only [Bool.false_eq_true, if_false]
        split
        · simp; omega
        · exact ih
      · simp only [hpq y hz, if_true, List.length_cons]; omega
theorem cnt_lt {C : Array Bool} (hs : C.size = ops.size) {k : Nat} (hk : k ∈ Region.ready .any ops C) : cnt ops (C.setIfInBounds k true) < cnt ops C := by
  obtain ⟨hlt, hl, -⟩ := (ready_iff hs).1 hk
  refine filter_lt (fun x hx => ?_) (List.mem_range.2 hlt) ?_ ?_
  · by_cases hxk : k = x
    · subst hxk; simp [hs, hlt] at hx
    · rw [getD_set_ne false hxk] at hx; exact hx
  · unfold Lst at hl; simpa using hl
  · simp [hs, hlt]
theorem mem_hall {F : Nat → Prop} : ∀ {l : List Nat}, hall l F → ∀ k ∈ l, F k
  | [], h, k, hk => by simp at hk
  | [x], h, k, hk => by simp at hk; subst hk; exact h
  | x :: y :: l, h, k, hk => by
    rcases List.mem_cons.1 hk with rfl | hk
    · exact h.1
    · exact mem_hall h.2 k hk
theorem hdr_ok {K : List HV → HS → Prop} {Q : Exit → Act → World → Prop} : ∀ (hf cf : Nat) (L W : List Nat) (kn : Known) (env : List HV) (s : HS) (C : Array Bool) (m : M) (w : World) (a : Act),
    hdr P ops K hf L W kn env s → KnownH ops env kn → Sim P ops L W env s C m w a → cnt ops C ≤ cf →
    (∀ m' env' s' a' w', M.le m m' → Rel m' s' w' → EnvRep m' env' a' → Fr (opsDsts ops) a a' → K env' s' → Q .normal a' w') → wpAny P .any ops Q cf C a w := by
  intro hf
  induction hf with
  | zero => intro cf L W kn env s C m w a h; exact h.elim
  | succ hf ihf =>
    intro cf
    induction cf with
    | zero =>
      intro L W kn env s C m w a h hkn hS hcnt hq
      have hr : Region.ready .any ops C = [] := by
        cases hr : Region.ready .any ops C with
        | nil => rfl
        | cons k r => have := cnt_lt hS.size (k := k) (by rw [hr]; exact .head _); omega
      unfold hdr at h
      split at h
      · rename_i k hne
        split at h
        · rename_i o ho
          have hfind := List.find?_some hne
          have hkr := List.mem_of_find?_eq_some hne
          obtain ⟨hlt, hkL, hkw⟩ := mem_readyD.1 hkr
          have hall := all_listed hS.size hr L hS.ord
          have : k ∈ Region.ready .any ops C := (ready_iff hS.size).2 ⟨hlt, fun hl => hkL (hS.sub k hl), fun i hi => hall i (hkw i hi)⟩
          rw [hr] at this; cases this
        · exact h.elim
      · split at h
        · rename_i hrd
          have hall := all_listed hS.size hr L hS.ord
          refine ⟨hr, hq m env s a w (M.le.refl m) hS.rel ⟨hS.len, fun t x hx => hS.rep t x hx (fun i hi hl => absurd (hall i (hS.wsub i hi)) hl), hS.defers⟩ (Fr.refl _ _) h⟩
        · rename_i hrd
          exfalso
          cases hrl : readyD ops L with
          | nil => exact hrd hrl
          | cons k r =>
            obtain ⟨hlt, hkL, hkw⟩ := mem_readyD.1 (show k ∈ readyD ops L by rw [hrl]; exact .head _)
            have hall := all_listed hS.size hr L hS.ord
            have : k ∈ Region.ready .any ops C := (ready_iff hS.size).2 ⟨hlt, fun hl => hkL (hS.sub k hl), fun i hi => hall i (hkw i hi)⟩
            rw [hr] at this; cases this
    | succ cf ihc =>
      intro L W kn env s C m w a h hkn hS hcnt hq
      have h0 := h
      unfold hdr at h
      split at h
      · -- an early one is taken
        rename_i k hne
        split at h
        · rename_i o ho
          have hfind := List.find?_some hne
          rw [ho] at hfind
          have hkr := List.mem_of_find?_eq_some hne
          have heff : isEff P o.op = false := by
            simp only [isLate, Bool.not_eq_true', Bool.or_eq_false_iff] at hfind; exact hfind.1
          split at h
          rotate_left
          · exact h.elim
          rename_i hc
          have hs := h
          rcases hstep_cases ho hs hkn with ⟨h1, kn', hk1, h2⟩ | ⟨h1, kn', hk1, h2⟩
          · unfold hdo at h2
            rw [if_neg (by rw [heff]; exact Bool.false_ne_true)] at h2
            unfold bindO at h2
            split at h2
            rotate_left
            · exact h2.elim
            rename_i v hv
            exact ihf (cf + 1) _ _ _ _ _ C m w a h2 (hk1.forget o.dst v) (sim_early hS hkr ho heff hc (.inl ⟨h1, hv⟩)) hcnt hq
          · exact ihf (cf + 1) _ _ _ _ _ C m w a h2 hk1 (sim_early hS hkr ho heff hc (.inr ⟨h1, rfl⟩)) hcnt hq
        · exact h.elim
      · rename_i hne
        have earlyCase : ∀ j ∈ Region.ready .any ops C, j ∈ L → wpOp P ops Q j (wpAny P .any ops Q cf (C.setIfInBounds j true)) a w := by
          intro j hj hjL
          refine step_early hS hj hjL (fun cv hS' => ?_)
          refine ihc L W kn env s _ m w _ h0 hkn hS' (by have := cnt_lt hS.size hj; omega) (fun m' env' s' a' w' g1 g2 g3 g4 g5 => hq m' env' s' a' w' g1 g2 g3 ?_ g5)
          obtain ⟨o, v, ho, -⟩ := hS.early j (by
            by_cases hw : j ∈ W
            · exact hw
            · exact absurd (hS.done j hjL hw) ((ready_iff hS.size).1 hj).2.1) ((ready_iff hS.size).1 hj).2.1
          exact (Fr.put (fun t ht => dst_mem ho t (by rw [← dst_of ho]; exact ht)) cv).trans g4
        refine ⟨fun hr => ?_, fun j hj => ?_⟩
        · have hall := all_listed hS.size hr L hS.ord
          split at h
          · exact hq m env s a w (M.le.refl m) hS.rel ⟨hS.len, fun t x hx => hS.rep t x hx (fun i hi hl => absurd (hall i (hS.wsub i hi)) hl), hS.defers⟩ (Fr.refl _ _) h
          · rename_i hrd
            exfalso
            cases hrl : readyD ops L with
            | nil => exact hrd hrl
            | cons k r =>
              obtain ⟨hlt, hkL, hkw⟩ := mem_readyD.1 (show k ∈ readyD ops L by rw [hrl]; exact .head _)
              have : k ∈ Region.ready .any ops C := (ready_iff hS.size).2 ⟨hlt, fun hl => hkL (hS.sub k hl), fun i hi => hall i (hkw i hi)⟩
              rw [hr] at this; cases this
        · by_cases hjL : j ∈ L
          · exact earlyCase j hj hjL
          · obtain ⟨hlt, hjl, hjw⟩ := (ready_iff hS.size).1 hj
            have hjr : j ∈ readyD ops L := mem_readyD.2 ⟨hlt, hjL, fun i hi => hS.sub i (hjw i hi)⟩
            split at h
            · rename_i hrd; rw [hrd] at hjr; cases hjr
            · have h1 := mem_hall h j hjr
              split at h1
              · rename_i o ho
                split at h1
                rotate_left
                · exact h1.elim
                rename_i hc
                have hs := h1
                refine step_late hS hj hjL ho hkn hc hs (fun m' w' s' kn' v cv g1 g2 g3 g4 => ?_)
                refine ihf cf _ _ _ _ _ _ m' w' _ g3 g2 g4 (by have := cnt_lt hS.size hj; omega) (fun m'' env'' s'' a'' w'' q1 q2 q3 q4 q5 => hq m'' env'' s'' a'' w'' (g1.trans q1) q2 q3 ?_ q5)
                exact (Fr.put (dst_mem ho) cv).trans q4
              · exact h1.elim
theorem hdraw_ok {id : Nat} {K : List HV → HS → Prop} {Q : Exit → Act → World → Prop} {env : List HV} {a : Act} (h : hdraw P ops K env s) (hR : Rel m s w) (hE : EnvRep m env a)
    (hq : ∀ m' env' s' a' w', M.le m m' → Rel m' s' w' → EnvRep m' env' a' → Fr (opsDsts ops) a a' → K env' s' → Q .normal a' w') : (Code.region id ops true).wp P Q a w := by
  unfold hdraw at h
  split at h
  rotate_left
  · exact h.elim
  rename_i hm
  have hS : Sim P ops [] [] env s (Array.replicate ops.size false) m { w with drawn := w.drawn + 1 } a := by
    refine ⟨by simp, fun k hk => ?_, fun j hj => ?_, fun j hj => by simp at hj, trivial, fun i hi => by simp at hi, hR.drew, hE.size, hE.defers, fun t x hx _ => hE.rep t x hx, fun i hi => by simp at hi, fun i hi => by simp at hi⟩
    · unfold Lst at hk
      simp only [Array.getD_eq_getD_getElem?, Array.getElem?_replicate] at hk
      split at hk <;> simp at hk
    · unfold Lst at hj
      simp only [Array.getD_eq_getD_getElem?, Array.getElem?_replicate] at hj
      split at hj <;> simp at hj
  have hany := hdr_ok (Q := Q) _ ops.size _ _ _ _ _ _ _ _ _ h (fun j b hj => by cases hj) hS (by unfold cnt; exact Nat.le_trans (List.length_filter_le _ _) (by simp)) hq
  refine wp_region_draw fun t => ?_
  unfold Region.schedule
  rw [if_pos hm]
  exact wpAny_sound ops.size t _ a _ hany
end Go.Proofs.Ytecnfekcflfihaa.H
