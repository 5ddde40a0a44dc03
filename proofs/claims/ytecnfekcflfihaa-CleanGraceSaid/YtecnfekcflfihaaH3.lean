/- The H layer, 3: the model's operations give what the H operations give. -/
import Derived.Test.YtecnfekcflfihaaH2
namespace Go.Proofs.Ytecnfekcflfihaa.H
open Go.RowKit Go.MapKept
set_option linter.unusedVariables false
set_option linter.unusedSimpArgs false
variable {P : Program} {m : M} {s : HS} {w : World}
theorem rb {α β : Type} {x : Sem α} {f : α → Sem β} {a : α} {w' : World} (h : x.run P w = .ok a w') : (x >>= f).run P w = (f a).run P w' := by
  show (x.bind f).run P w = _
  rw [Sem.run_bind', h]; rfl

theorem vPick_ok {c a b v : HV} {cc ca cb : Value} (h : vPick c a b = some v) (hc : Rep m c cc) (ha : Rep m a ca) (hb : Rep m b cb) :
    ∃ cv, (do pure (.value (if ← asBool cc then ca else cb)) : Sem Next).run P w = .ok (.value cv) w ∧ Rep m v cv := by
  unfold vPick at h
  split at h
  · cases hc; cases h; exact ⟨ca, by simp [asBool], ha⟩
  · cases hc; cases h; exact ⟨cb, by simp [asBool], hb⟩
  · cases h

theorem vBin_ok {t : TypeId} {op : BinOp} {x y v : HV} {cx cy : Value} (h : vBin op x y = some v) (hx : Rep m x cx) (hy : Rep m y cy) :
    ∃ cv, (binOp op t cx cy).run P w = .ok cv w ∧ Rep m v cv ∧ (∀ k k', eqGuard op t k k' cx cy = pure ()) := by
  unfold vBin at h
  split at h
  · cases hx; cases hy
    rename_i k a k' b
    have hg : ∀ (o1 o2 : Operand), eqGuard op t o1 o2 (.int k a) (.int k' b) = pure () := fun o1 o2 => by cases op <;> rfl
    cases op
    case shl => 
      simp only at h; split at h; cases h; rename_i hb; cases h
      exact ⟨_, by simp [binOp, Op.shift, hb], .lit _, hg⟩
    case shr => 
      simp only at h; split at h; cases h; rename_i hb; cases h
      exact ⟨_, by simp [binOp, Op.shift, hb], .lit _, hg⟩
    all_goals (simp only at h; split at h; rotate_left; cases h; rename_i hk; subst hk)
    case h_1.lit.lit.quo.isTrue => split at h; cases h; rename_i hb; cases h; exact ⟨_, by simp [binOp, Op.intDiv, hb], .lit _, hg⟩
    case h_1.lit.lit.rem.isTrue => split at h; cases h; rename_i hb; cases h; exact ⟨_, by simp [binOp, Op.intDiv, hb], .lit _, hg⟩
    all_goals first | (cases h; done) | (cases h; exact ⟨_, by simp [binOp, Op.intArith, Op.intCmp, intBits_and, intBits_or, intBits_xor, intBits_andNot], .lit _, hg⟩)
  · cases hx; cases hy
    rename_i a b
    have hg : ∀ (o1 o2 : Operand), eqGuard op t o1 o2 (.string a) (.string b) = pure () := fun o1 o2 => by cases op <;> rfl
    cases op
    case add => simp only at h; split at h; cases h; rename_i hb; cases h; exact ⟨_, by simp only [binOp, Op.stringOp]; rw [if_neg hb]; rfl, .lit _, hg⟩
    all_goals first | (cases h; done) | (cases h; exact ⟨_, by simp [binOp, Op.stringOp], .lit _, hg⟩)
  · cases h

theorem vEq_ok {t : TypeId} {x y : HV} {b : Bool} {cx cy : Value} (h : vEq (P.underlying t) x y = some b) (hx : Rep m x cx) (hy : Rep m y cy) :
    (binOp .eql t cx cy).run P w = .ok (.bool b) w ∧ (binOp .neq t cx cy).run P w = .ok (.bool (!b)) w ∧ ∀ op k k', eqGuard op t k k' cx cy = pure () := by
  have key : ∀ (a b : Value) (r : Bool), (∀ n, (Op.equalIn (n + 1) t a b).run P w = .ok r w) → (∀ op, binOp op t a b = match op with | .eql => (do pure (.bool (← Op.equal t a b))) | .neq => (do pure (.bool (!(← Op.equal t a b)))) | op => binOp op t a b) → 
      (∀ op k k', eqGuard op t k k' a b = pure ()) → (binOp .eql t a b).run P w = .ok (.bool r) w ∧ (binOp .neq t a b).run P w = .ok (.bool (!r)) w ∧ ∀ op k k', eqGuard op t k k' a b = pure () := by
    intro a b r h1 h2 h3
    have h4 := h1 9999
    refine ⟨?_, ?_, h3⟩
    · rw [h2 .eql]; simp [Op.equal, Op.maxDepth, h4]
    · rw [h2 .neq]; simp [Op.equal, Op.maxDepth, h4]
  unfold vEq at h
  cases hd : P.underlying t with
  | none => rw [hd] at h; cases h
  | some d =>
    rw [hd] at h
    cases d <;> simp only at h <;> try (cases h; done)
    all_goals (split at h <;> first | (cases h; done) | skip)
    all_goals (cases h; cases hx <;> cases hy <;> (refine key _ _ _ (fun n => ?_) (fun op => by cases op <;> rfl) (fun op k k' => by cases op <;> rfl); simp [Op.equalIn, run_underlying hd]))
theorem vCmp_ok {t : TypeId} {op : BinOp} {x y v : HV} {cx cy : Value} (h : vCmp (P.underlying t) op x y = some v) (hx : Rep m x cx) (hy : Rep m y cy) :
    ∃ cv, (binOp op t cx cy).run P w = .ok cv w ∧ Rep m v cv ∧ (∀ k k', eqGuard op t k k' cx cy = pure ()) := by
  have hb : ∀ {op}, vBin op x y = some v → _ := fun {op} h => vBin_ok (P := P) (w := w) (t := t) (op := op) h hx hy
  unfold vCmp at h
  cases op
  case eql =>
    simp only at h
    split at h
    · rename_i u hu; cases h; exact hb hu
    · cases hq : vEq (P.underlying t) x y with
      | none => rw [hq] at h; cases h
      | some b =>
        rw [hq] at h; cases h
        obtain ⟨h1, h2, h3⟩ := vEq_ok (w := w) hq hx hy
        exact ⟨_, h1, .lit _, h3 _⟩
  case neq =>
    simp only at h
    split at h
    · rename_i u hu; cases h; exact hb hu
    · cases hq : vEq (P.underlying t) x y with
      | none => rw [hq] at h; cases h
      | some b =>
        rw [hq] at h; cases h
        obtain ⟨h1, h2, h3⟩ := vEq_ok (w := w) hq hx hy
        exact ⟨_, h2, .lit _, h3 _⟩
  all_goals exact hb h
theorem vUn_ok {op : UnOp} {x v : HV} {cx : Value} (h : vUn op x = some v) (hx : Rep m x cx) : ∃ cv, (Op.unary op cx).run P w = .ok cv w ∧ Rep m v cv := by
  unfold vUn at h
  split at h
  · cases hx; cases h; exact ⟨_, by simp [Op.unary, Op.intArith], .lit _⟩
  · cases hx; cases h; exact ⟨_, by simp [Op.unary, intBits_xor], .lit _⟩
  · cases hx; cases h; exact ⟨_, by simp [Op.unary], .lit _⟩
  · cases h
/-- A type's size, whether it is one of cells, its zero, its element. -/
def tSize (P : Program) (t : TypeId) : Option Nat := (P.info? t).map (·.size)
def tAgg (P : Program) (t : TypeId) : Option Bool := match P.underlying t with | some (.struct _) | some (.array _ _) => some true | some _ => some false | none => none
def tZero (P : Program) (t : TypeId) : Option Value := (P.info? t).bind (·.zero)
def tBytes (P : Program) (t : TypeId) : Option Nat := (P.info? t).map (·.bytes)
def tField (P : Program) (t : TypeId) (f : Nat) : Option (TypeId × Nat) := match P.underlying t with | some (.struct fs) => (fs[f]?).map fun x => (x.type, x.offset) | _ => none
def tElem (P : Program) (t : TypeId) : Option TypeId := match P.underlying t with | some (.slice e) => some e | _ => none
theorem tSize_run {t : TypeId} {n : Nat} (h : tSize P t = some n) : (sizeOf t).run P w = .ok n w := by
  unfold tSize at h
  cases hi : P.info? t with
  | none => rw [hi] at h; cases h
  | some i => rw [hi] at h; cases h; simp [sizeOf, typeInfo, hi]
theorem tAgg_run {t : TypeId} {b : Bool} (h : tAgg P t = some b) : (isAgg t).run P w = .ok b w := by
  unfold tAgg at h
  split at h <;> first | (cases h; done) | skip
  all_goals (rename_i hd)
  · cases h; simp [isAgg, run_underlying hd]
  · cases h; simp [isAgg, run_underlying hd]
  · cases h
    rename_i d h1 h2
    cases d <;> first | (exact (h1 _ rfl).elim) | (exact (h2 _ _ rfl).elim) | (simp [isAgg, run_underlying hd]; done)
theorem tZero_run {t : TypeId} {v : Value} (h : tZero P t = some v) : (zeroValue t).run P w = .ok v w := by
  unfold tZero at h
  cases hi : P.info? t with
  | none => rw [hi] at h; cases h
  | some i => rw [hi] at h; have h' : i.zero = some v := h; simp [zeroValue, typeInfo, hi, h']
theorem tElem_run {t e : TypeId} (h : tElem P t = some e) : P.underlying t = some (.slice e) := by
  unfold tElem at h
  split at h
  · rename_i hd; cases h; exact hd
  · cases h
theorem takeCells_ok {cs : List HV} {vs : List Value} {off n : Nat} {ag : Bool} {v : HV} (h : takeCells cs off n ag = some v) (hr : Reps m cs vs) :
    ∃ cv, Rep m v cv ∧ (ag = true → off + n ≤ vs.length ∧ cv = .agg ((vs.drop off).take n).toArray) ∧ (ag = false → vs[off]? = some cv) := by
  unfold takeCells at h
  cases ag
  · simp only [Bool.false_eq_true, if_false] at h
    refine ⟨vs.getD off undef, hr.2.2 off v h, (fun h => by cases h), fun _ => ?_⟩
    have hlt : off < vs.length := by rw [hr.2.1]; exact (List.getElem?_eq_some_iff.1 h).1
    simp [List.getD, hlt]
  · simp only [if_true] at h
    split at h
    · rename_i hle
      cases h
      have hle' : off + n ≤ vs.length := by rw [hr.2.1]; exact hle
      refine ⟨_, .agg _ ((vs.drop off).take n).toArray (fun x hx => hr.1 x (List.mem_of_mem_drop (List.mem_of_mem_take hx))) (by simp [hr.2.1]) ?_, fun _ => ⟨hle', rfl⟩, (fun h => by cases h)⟩
      intro j x hj
      have hj2 : j < n := by
        have := (List.getElem?_eq_some_iff.1 hj).1
        simp at this; omega
      have h3 : cs[off + j]? = some x := by
        rw [List.getElem?_take, if_pos hj2, List.getElem?_drop] at hj; exact hj
      have h4 := hr.2.2 _ _ h3
      have : ((vs.drop off).take n).toArray.getD j undef = vs.getD (off + j) undef := by
        have hlt : off + j < vs.length := by omega
        have hm : j < min n (vs.length - off) := by omega
        simp [List.getD, hlt, Array.getD, hm]
      rw [this]; exact h4
    · cases h
theorem add_loc (b o k : Nat) : (⟨b, o, none⟩ : Addr).add k = ⟨b, o + k, none⟩ := by
  unfold Addr.add
  split
  · rename_i h; subst h; rfl
  · rfl
theorem vField_ok {t f u off n : Nat} {x v : HV} {cx : Value} (hf : tField P t f = some (u, off)) (hn : tSize P u = some n) (hn0 : n ≠ 0) (h : vField off x = some v) (hx : Rep m x cx) :
    ∃ cv, (Instr.fieldAt t cx f).run P w = .ok cv w ∧ Rep m v cv := by
  unfold tField at hf
  split at hf
  · rename_i fs hd
    cases hfl : fs[f]? with
    | none => rw [hfl] at hf; cases hf
    | some fl =>
      rw [hfl] at hf
      simp only [Option.map_some, Option.some.injEq, Prod.mk.injEq] at hf
      obtain ⟨rfl, rfl⟩ := hf
      have hsz := tSize_run (P := P) (w := w) hn
      unfold vField at h
      split at h
      · rename_i id o
        cases h
        cases hx with
        | ptr _ _ l hl =>
        refine ⟨.pointer (some ⟨l.b, l.base + o + fl.offset, none⟩), ?_, ?_⟩
        rotate_left
        · rw [Nat.add_assoc]; exact .ptr _ _ _ hl
        · simp [Instr.fieldAt, run_underlying hd, hfl, Instr.sureAddr, fieldPlace, hsz, hn0, add_loc]
      · rename_i cs o
        cases h
        cases hx with
        | elt _ _ b o' g h0 h1 h2 =>
        refine ⟨.pointer (some ⟨b, o' + o + fl.offset, none⟩), ?_, ?_⟩
        rotate_left
        · rw [Nat.add_assoc]; exact .elt _ _ _ _ _ h0 h1 h2
        · simp [Instr.fieldAt, run_underlying hd, hfl, Instr.sureAddr, fieldPlace, hsz, hn0, add_loc]
      · cases h
  · cases hf
theorem aggOf {x v : HV} {off n : Nat} {ag : Bool} {cx : Value} (h : vPart off n ag x = some v) (hx : Rep m x cx) :
    ∃ vs : Array Value, cx = .agg vs ∧ ∃ cs, Reps m cs vs.toList ∧ takeCells cs off n ag = some v := by
  unfold vPart at h
  split at h
  · cases hx with
    | agg _ vs ho hs hr => exact ⟨vs, rfl, _, ⟨ho, by simpa using hs, fun j z hj => by have := hr j z hj; simpa [List.getD] using this⟩, h⟩
  · rename_i vs
    cases hx
    split at h
    · rename_i ha
      exact ⟨vs, rfl, _, reps_lits m ha, h⟩
    · cases h
  · cases h
theorem part_ok {t off n : Nat} {ag : Bool} {cs : List HV} {vs : Array Value} {v : HV} (hn : tSize P t = some n) (ha : tAgg P t = some ag) (hr : Reps m cs vs.toList) (h : takeCells cs off n ag = some v) :
    ∃ cv, (part t vs off).run P w = .ok cv w ∧ Rep m v cv := by
  obtain ⟨cv, h1, h2, h3⟩ := takeCells_ok h hr
  refine ⟨cv, ?_, h1⟩
  have ha' := tAgg_run (P := P) (w := w) ha
  have hn' := tSize_run (P := P) (w := w) hn
  cases ag
  · have h4 := h3 rfl
    have h5 : vs[off]? = some cv := by rw [← Array.getElem?_toList]; exact h4
    simp [part, ha', h5]
  · obtain ⟨h4, h5⟩ := h2 rfl
    have h6 : vs.extract off (off + n) = ((vs.toList.drop off).take n).toArray := by
      apply Array.ext'
      simp [List.take_drop]
    simp [part, ha', hn', h6, h5]
theorem loadCells_ok {a : Addr} {n : Nat} {f : Nat → Value} (h : ∀ j, j < n → w.cell? (a.add j) = some (f j)) :
    (loadCells a n).run P w = .ok ((List.range n).map f).toArray w := by
  have := run_loadCells (P := P) w a n f h
  simpa using this
/-- What a place holds, in the world. -/
theorem place_ok {p v : HV} {n : Nat} {ag : Bool} {cp : Value} (h : vLoad s p n ag = some v) (hR : Rel m s w) (hp : Rep m p cp) :
    ∃ b o cs vs, cp = .pointer (some ⟨b, o, none⟩) ∧ Reps m cs vs ∧ takeCells cs 0 n ag = some v ∧ ∀ j u, vs[j]? = some u → w.cell? ⟨b, o + j, none⟩ = some u := by
  have shift : ∀ (cs : List HV) (off : Nat), takeCells cs off n ag = some v → takeCells (cs.drop off) 0 n ag = some v := by
    intro cs off h
    unfold takeCells at h ⊢
    cases ag
    · simpa using h
    · simp only [if_true] at h ⊢
      split at h
      · rename_i hle
        rw [if_pos (by simp; omega)]
        simpa using h
      · cases h
  unfold vLoad at h
  split at h
  · rename_i id off
    split at h
    · rename_i cs hcs
      cases hp with
      | ptr _ _ l hl =>
        obtain ⟨h0, c, t, fr, h1, h2, h3, h4, h5⟩ := hR.objs _ _ _ hcs hl
        refine ⟨l.b, l.base + off, cs.drop off, (List.range (cs.length - off)).map fun j => c.getD (l.base + off + j) undef, rfl, ⟨fun x hx => h0 x (List.mem_of_mem_drop hx), by simp, fun j x hj => ?_⟩, shift _ _ h, fun j u hj => ?_⟩
        · rw [List.getElem?_drop] at hj
          have hlt : off + j < cs.length := (List.getElem?_eq_some_iff.1 hj).1
          have h6 := h5 _ _ hj
          have : ((List.range (cs.length - off)).map fun j => c.getD (l.base + off + j) undef).getD j undef = c.getD (l.base + (off + j)) undef := by
            have hj3 : j < cs.length - off := by omega
            simp [List.getD, List.getElem?_range, hj3, Nat.add_assoc]
          rw [this]; exact h6
        · have hj3 : j < cs.length - off := by have := (List.getElem?_eq_some_iff.1 hj).1; simpa using this
          rw [List.getElem?_map, List.getElem?_range hj3] at hj
          simp only [Option.map_some, Option.some.injEq] at hj
          subst hj
          have hlt : l.base + off + j < c.size := by omega
          simp [World.cell?, h1, hlt]
    · cases h
  · rename_i cs off
    cases hp with
    | elt _ _ b o f h0 hc hr =>
      refine ⟨b, o + off, cs.drop off, (List.range (cs.length - off)).map fun j => f (off + j), rfl, ⟨fun x hx => h0 x (List.mem_of_mem_drop hx), by simp, fun j x hj => ?_⟩, shift _ _ h, fun j u hj => ?_⟩
      · rw [List.getElem?_drop] at hj
        have hlt : off + j < cs.length := (List.getElem?_eq_some_iff.1 hj).1
        have h6 := hr _ _ hj
        have : ((List.range (cs.length - off)).map fun j => f (off + j)).getD j undef = f (off + j) := by
          have hj3 : j < cs.length - off := by omega
          simp [List.getD, List.getElem?_range, hj3]
        rw [this]; exact h6
      · have hj3 : j < cs.length - off := by have := (List.getElem?_eq_some_iff.1 hj).1; simpa using this
        rw [List.getElem?_map, List.getElem?_range hj3] at hj
        simp only [Option.map_some, Option.some.injEq] at hj
        subst hj
        rw [Nat.add_assoc]
        exact hR.com _ _ _ (hc _ (by omega))
  · cases h
theorem vLoad_ok {t n : Nat} {ag : Bool} {p v : HV} {cp : Value} (hn : tSize P t = some n) (ha : tAgg P t = some ag) (h : vLoad s p n ag = some v) (hR : Rel m s w) (hp : Rep m p cp) :
    ∃ cv, (Instr.loadAt t cp).run P w = .ok cv w ∧ Rep m v cv := by
  obtain ⟨b, o, cs, vs, rfl, hr, ht, hc⟩ := place_ok h hR hp
  obtain ⟨cv, h1, h2, h3⟩ := takeCells_ok ht hr
  refine ⟨cv, ?_, h1⟩
  have ha' := tAgg_run (P := P) (w := w) ha
  have hn' := tSize_run (P := P) (w := w) hn
  show (Instr.sureAddr _ >>= fun a => loadVar t a).run P w = _
  rw [rb (show (Instr.sureAddr (.pointer (some ⟨b, o, none⟩))).run P w = .ok ⟨b, o, none⟩ w from rfl)]
  unfold loadVar
  rw [rb ha']
  cases ag
  · have h4 := hc 0 cv (h3 rfl)
    show (load ⟨b, o, none⟩).run P w = .ok cv w
    simp only [load, Sem.run]
    rw [show w.cell? ⟨b, o, none⟩ = some cv from h4]
  · obtain ⟨h4, h5⟩ := h2 rfl
    have h6 := loadCells_ok (P := P) (w := w) (a := ⟨b, o, none⟩) (n := n) (f := fun j => vs.getD j undef) (fun j hj => by
      rw [add_loc]
      have hlt : j < vs.length := by omega
      refine hc j _ ?_
      simp [List.getD, hlt])
    have h7 : ((List.range n).map fun j => vs.getD j undef).toArray = ((vs.drop 0).take n).toArray := by
      apply Array.ext'
      simp only [List.drop_zero]
      apply List.ext_getElem
      · simp; omega
      · intro i hi1 hi2
        have hlt : i < vs.length := by simp at hi2; omega
        simp [List.getD, hlt]
    rw [if_pos rfl, rb hn', rb h6, h7, h5]
    rfl
end Go.Proofs.Ytecnfekcflfihaa.H
