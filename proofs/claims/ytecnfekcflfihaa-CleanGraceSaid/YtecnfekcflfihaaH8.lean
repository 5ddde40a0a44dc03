/- The H layer, 8: an operation of the code: what it gives, or does. -/
import Derived.Test.YtecnfekcflfihaaH7
import Derived.Orders
namespace Go.Proofs.Ytecnfekcflfihaa.H
open Go.RowKit Go.MapKept
set_option linter.unusedVariables false
set_option linter.unusedSimpArgs false
variable {P : Program} {m : M} {s : HS} {w : World}

/-- Called in any world that stands for s, function f ends in what Q says. -/
def HC (P : Program) (f : FuncId) (args : List HV) (s : HS) (Q : HV → HS → Prop) : Prop :=
  ∀ (m : M) (w : World) (cargs : Array Value), Rel m s w → cargs.size = args.length → (∀ (j : Nat) x, args[j]? = some x → Rep m x (cargs.getD j undef)) →
    Calls P f cargs w fun e w' => ∃ cv v s' m', e = .returned cv ∧ M.le m m' ∧ Rel m' s' w' ∧ Rep m' v cv ∧ Q v s'
/-- Values of a list. -/
def RepsL (m : M) (xs : List HV) (cvs : List Value) : Prop := cvs.length = xs.length ∧ ∀ (j : Nat) x, xs[j]? = some x → Rep m x (cvs.getD j undef)
theorem RepsL.mono {m m' : M} {xs : List HV} {cvs : List Value} (h : RepsL m xs cvs) (hm : M.le m m') : RepsL m' xs cvs := ⟨h.1, fun j x hj => (h.2 j x hj).mono hm⟩
/-- What stands for the first stands for the second as well. -/
def UpL (xs : List HV) (s : HS) (xs' : List HV) (s' : HS) : Prop :=
  ∀ (m : M) (w : World) (cvs : List Value), Rel m s w → RepsL m xs cvs → ∃ m', M.le m m' ∧ Rel m' s' w ∧ RepsL m' xs' cvs
theorem UpL.refl (xs : List HV) (s : HS) : UpL xs s xs s := fun m w cvs h k => ⟨m, M.le.refl m, h, k⟩
theorem UpL.trans {a b c : List HV} {s t u : HS} (h : UpL a s b t) (k : UpL b t c u) : UpL a s c u := fun m w cvs h1 h2 => by
  obtain ⟨m', g1, g2, g3⟩ := h m w cvs h1 h2
  obtain ⟨m'', q1, q2, q3⟩ := k m' w cvs g2 g3
  exact ⟨m'', g1.trans q1, q2, q3⟩
theorem UpL.le (xs : List HV) {s s' : HS} (h : HS.le s' s) : UpL xs s xs s' := fun m w cvs h1 h2 => ⟨m, M.le.refl m, h1.weaken h, h2⟩
theorem HC.mono {f : FuncId} {args : List HV} {Q Q' : HV → HS → Prop} (h : HC P f args s Q) (hq : ∀ v s', Q v s' → Q' v s') : HC P f args s Q' :=
  fun m w cargs hR hn ha => (h m w cargs hR hn ha).mono fun e w' ⟨cv, v, s', m', h1, h2, h3, h4, h5⟩ => ⟨cv, v, s', m', h1, h2, h3, h4, hq _ _ h5⟩

/-- A function with a body, and no name of the model's own. -/
def plainFn (P : Program) (f : FuncId) : Bool :=
  match P.funcs[f]? with
  | some fn => fn.body.isSome && fn.name != "runtime.NumGoroutine"
  | none => false
def isStrHV : HV → Bool
  | .lit (.string _) => true
  | _ => false
def hconv (P : Program) (src dst : TypeId) (x : HV) (s : HS) : Option HV :=
  match P.underlying src, P.underlying dst with
  | some _, some (.int k) => vToInt k x
  | some .string, some .string => vIsStr x
  | some (.slice e), some .string => if isStrHV x then none else (match P.underlying e with
    | some (.int .u8) => vToStr s x
    | _ => none)
  | _, _ => none
def hfold (f : HV → HV → Option HV) : HV → List HV → Option HV
  | x, [] => some x
  | x, y :: r => (f x y).bind fun z => hfold f z r
def vLenT (d : Option TypeDesc) (s : HS) (x : HV) : Option HV :=
  match d, x with
  | some .string, .lit (.string _) => vLen s x
  | some (.slice _), .list _ _ _ _ => vLen s x
  | some (.slice _), .view _ _ _ _ _ => vLen s x
  | some (.slice _), .ne _ => vLen s x
  | some (.slice _), .nils => vLen s x
  | some (.slice _), .lit (.slice _ _ _) => vLen s x
  | some (.map _ _), .map _ => vLen s x
  | some (.map _ _), .lit (.map none) => vLen s x
  | _, _ => none
def hbuiltin (P : Program) (b : Builtin) (argTypes : Array TypeId) (xs : List HV) (s : HS) : Option HV :=
  match b, argTypes[0]?, xs with
  | .len, some t, [x] => vLenT (P.underlying t) s x
  | .max, _, x :: r => hfold vMax2 x r
  | .min, _, x :: r => hfold vMin2 x r
  | _, _, _ => none
def hval (P : Program) (op : Op) (env : List HV) (s : HS) : Option HV :=
  match op with
  | .move x => some (hev env x)
  | .assign x => some (hev env x)
  | .pick c a b => vPick (hev env c) (hev env a) (hev env b)
  | .nilCheck x => vNil (hev env x)
  | .binOp op t x y _ => vCmp (P.underlying t) op (hev env x) (hev env y)
  | .unOp op _ x => vUn op (hev env x)
  | .convert src dst x => hconv P src dst (hev env x) s
  | .fieldAddr t x f => (match tField P t f with
    | some (u, off) => (match tSize P u with | some (_ + 1) => vField off (hev env x) | _ => none)
    | none => none)
  | .field t x f => (match tField P t f with
    | some (u, off) => (match tSize P u, tAgg P u with | some n, some ag => vPart off n ag (hev env x) | _, _ => none)
    | none => none)
  | .indexAddr t x i => (match tElem P t with
    | some e => (match tSize P e with | some sz => vIdx sz (hev env x) (hev env i) | none => none)
    | none => (match tArr P t with
      | some (len, e) => (match tSize P e with | some sz => vIdxArr len sz (hev env x) (hev env i) | none => none)
      | none => none))
  | .index t x i => (match P.underlying t with
    | some .string => vStrIdx (hev env x) (hev env i)
    | some (.array len e) => (match tSize P e, tAgg P e with | some n, some ag => vAggIdx len n ag (hev env x) (hev env i) | _, _ => none)
    | _ => none)
  | .slice t x lo hi mx => (match P.underlying t with
    | some (.slice e) => (match tSize P e with | some sz => vSlice sz (hev env x) (lo.map (hev env)) (hi.map (hev env)) (mx.map (hev env)) | none => none)
    | some .string => if mx.isNone then vStrSlice (hev env x) (lo.map (hev env)) (hi.map (hev env)) else none
    | _ => none)
  | .extract x i => vExtract (hev env x) i
  | .build t parts => (match tPlace P t, tZero P t with
    | some pl, some z => vBuild pl z (parts.toList.map fun p => (p.1, hev env p.2))
    | _, _ => none)
  | .load t x => (match tSize P t, tAgg P t with | some n, some ag => vLoad s (hev env x) n ag | _, _ => none)
  | .lookup t x k ok => (match P.underlying t with
    | some (.map kt et) => (match tZero P et with | some z => vLookup s (P.underlying kt) (.lit z) (hev env x) (hev env k) ok | none => none)
    | _ => none)
  | .makeFunc fn first caps => if first.size = 0 then some (.func fn (caps.toList.map (hev env))) else none
  | .call { callee := .builtin b, args, argTypes } => hbuiltin P b argTypes (args.toList.map (hev env)) s
  | _ => none
/-- Operations that make or write. -/
def isEff (P : Program) (op : Op) : Bool :=
  match op with
  | .alloc _ | .box _ _ | .store _ _ _ | .buildSlice _ _ _ | .makeSlice _ _ _ | .makeMap _ _ | .mapUpdate _ _ _ _ | .insert _ _ _ _ => true
  | .call { callee := .builtin .append, .. } => true
  | .call { callee := .builtin .delete, .. } => true
  | .call { callee := .value _, .. } => true
  | .convert _ dst _ => (match P.underlying dst with | some (.slice _) => true | _ => false)
  | _ => false
def hcall (P : Program) (f : HV) (args : List HV) (s : HS) (K : HV → HS → Prop) : Prop :=
  match f with
  | .func (.func f) caps => if plainFn P f then HC P f (args ++ caps) s K else False
  | _ => False
def srcTy : Option TypeDesc → Bool
  | some .string => true
  | some (.slice _) => true
  | _ => false
def happ (P : Program) (t t2 : TypeId) (b x : HV) (s : HS) (K : HV → HS → Prop) : Prop :=
  match tElem P t with
  | some e => (match tSize P e, tBytes P e, tZero P e with
    | some sz, some by_, some z => if z.cells.size == sz && srcTy (P.underlying t2) then hAppend s sz by_ b x K else False
    | _, _, _ => False)
  | none => False
def heff (P : Program) (op : Op) (env : List HV) (s : HS) (K : HV → HS → Prop) : Prop :=
  match op with
  | .alloc t => (match tZero P t with | some z => hBox s (.lit z) K | none => False)
  | .box _ x => hBox s (hev env x) K
  | .store t a x => (match tSize P t with | some n => hStore s (hev env a) (hev env x) n (K (.lit undef)) | none => False)
  | .buildSlice t n parts => (match tElem P t with
    | some e => (match tSize P e, tZero P e with | some sz, some z => hBuildSlice s sz n z (parts.toList.map fun p => (p.1, hev env p.2)) K | _, _ => False)
    | none => False)
  | .makeSlice t l c => (match tElem P t with
    | some e => (match tSize P e, tBytes P e, tZero P e with | some sz, some by_, some z => hMake s sz by_ z (hev env l) (hev env c) K | _, _, _ => False)
    | none => False)
  | .makeMap t r => (match P.underlying t with
    | some (.map kt _) => (match P.underlying kt with
      | some d => if r.isNone || (intAt (r.map (hev env))).isSome then hNew s (.map d (fun _ => none) 0) (fun id => .map id) K else False
      | none => False)
    | _ => False)
  | .mapUpdate t mp k v => (match P.underlying t with | some (.map kt _) => hMapSet s (P.underlying kt) (hev env mp) (hev env k) (hev env v) (K (.lit undef)) | _ => False)
  | .insert t mp k v => (match P.underlying t with | some (.map kt _) => hMapSet s (P.underlying kt) (hev env mp) (hev env k) (hev env v) (K (.lit undef)) | _ => False)
  | .convert src dst x => (match P.underlying src, P.underlying dst with
    | some _, some (.slice e) => (match P.underlying e with | some (.int .u8) => if src = dst then hMark s (hev env x) K else hStrBytes s (hev env x) K | _ => False)
    | _, _ => False)
  | .call { callee := .builtin .append, args, argTypes } => (match args.toList, argTypes.toList with
    | [b, x], [t, t2] => happ P t t2 (hev env b) (hev env x) s K
    | _, _ => False)
  | .call { callee := .builtin .delete, args, argTypes } => (match args.toList, argTypes.toList with
    | [b, x], [t, _] => (match P.underlying t with | some (.map kt _) => hMapDel s (P.underlying kt) (hev env b) (hev env x) (K (.lit (.tuple #[]))) | _ => False)
    | _, _ => False)
  | .call { callee := .value f, args, argTypes := _ } => hcall P (hev env f) (args.toList.map (hev env)) s K
  | _ => False

theorem run_val {x : Sem Value} {cv : Value} {w' : World} (h : x.run P w = .ok cv w') : (do pure (Next.value (← x)) : Sem Next).run P w = .ok (.value cv) w' := by
  show (x >>= fun a => pure (Next.value a)).run P w = _
  rw [rb h]; rfl
theorem run_unit {x : Sem Unit} {w' : World} (h : x.run P w = .ok () w') : (do x; pure Next.skip : Sem Next).run P w = .ok .skip w' := by
  show (x >>= fun _ => pure Next.skip).run P w = _
  rw [rb h]; rfl
theorem repO {env : List HV} {a : Act} (hE : EnvRep m env a) (x : Option Operand) : RepO m (x.map (hev env)) (x.map a.eval) := by
  cases x with
  | none => trivial
  | some x => exact hE.eval x
theorem repParts {env : List HV} {a : Act} (hE : EnvRep m env a) : ∀ l : List (Nat × Operand), RepParts m (l.map fun p => (p.1, hev env p.2)) (l.map fun p => (p.1, a.eval p.2))
  | [] => trivial
  | p :: l => ⟨rfl, hE.eval p.2, repParts hE l⟩
theorem repArgs {env : List HV} {a : Act} (hE : EnvRep m env a) (l : List Operand) : ∀ (j : Nat) x, (l.map (hev env))[j]? = some x → Rep m x ((l.map a.eval).getD j undef) := by
  intro j x hj
  rw [List.getElem?_map] at hj
  cases hl : l[j]? with
  | none => rw [hl] at hj; cases hj
  | some q =>
    rw [hl] at hj
    cases hj
    have : (l.map a.eval).getD j undef = a.eval q := by simp [List.getD, hl]
    rw [this]; exact hE.eval q
theorem vLen_ok {t ty : TypeId} {ats : Array TypeId} {x v : HV} {cx : Value} (hat : ats[0]? = some t)
    (h : vLenT (P.underlying t) s x = some v) (hR : Rel m s w) (hx : Rep m x cx) : ∃ cv, (Builtin.len_ ats ty #[cx]).run P w = .ok cv w ∧ Rep m v cv := by
  unfold vLenT at h
  split at h
  · rename_i hd; cases hx; simp only [vLen, Option.some.injEq] at h; subst h; exact ⟨_, by simp [Builtin.len_, hat, run_underlying hd, goInt], .lit _⟩
  · rename_i hd
    simp only [vLen, Option.some.injEq] at h; subst h
    cases hx <;> exact ⟨_, by simp [Builtin.len_, hat, run_underlying hd, goInt], .lit _⟩
  · rename_i hd
    simp only [vLen, Option.some.injEq] at h; subst h
    cases hx <;> exact ⟨_, by simp [Builtin.len_, hat, run_underlying hd, goInt], .lit _⟩
  · rename_i hd
    simp only [vLen, Option.some.injEq] at h; subst h
    cases hx <;> exact ⟨_, by simp [Builtin.len_, hat, run_underlying hd, goInt], .lit _⟩
  · rename_i hd
    simp only [vLen, Option.some.injEq] at h; subst h
    cases hx <;> exact ⟨_, by simp [Builtin.len_, hat, run_underlying hd, goInt], .lit _⟩
  · rename_i hd; cases hx; simp only [vLen, Option.some.injEq] at h; subst h; exact ⟨_, by simp [Builtin.len_, hat, run_underlying hd, goInt], .lit _⟩
  · rename_i id hd
    simp only [vLen] at h
    split at h
    · rename_i d f n hs
      cases h
      cases hx with
      | map _ l hl =>
      obtain ⟨es, cl, g1, g2, -⟩ := hR.objs _ _ _ hs hl
      have hg := Go.MapKept.run_getObj_map (P := P) g1
      exact ⟨_, by simp [Builtin.len_, hat, run_underlying hd, goInt, hg, g2], .lit _⟩
    · cases h
  · rename_i hd; cases hx; simp only [vLen, Option.some.injEq] at h; subst h; exact ⟨_, by simp [Builtin.len_, hat, run_underlying hd, goInt], .lit _⟩
  · cases h
theorem fold_ok {f : HV → HV → Option HV} {g : Value → Value → Sem Value} (hfg : ∀ {x y z : HV} {cx cy : Value}, f x y = some z → Rep m x cx → Rep m y cy → ∃ cz, (g cx cy).run P w = .ok cz w ∧ Rep m z cz) :
    ∀ (l : List Operand) {env : List HV} {a : Act} {x v : HV} {cx : Value}, EnvRep m env a → hfold f x (l.map (hev env)) = some v → Rep m x cx → ∃ cv, ((l.map a.eval).foldlM g cx).run P w = .ok cv w ∧ Rep m v cv
  | [], env, a, x, v, cx, hE, h, hx => by simp only [List.map_nil, hfold, Option.some.injEq] at h; subst h; exact ⟨cx, rfl, hx⟩
  | y :: l, env, a, x, v, cx, hE, h, hx => by
    simp only [List.map_cons, hfold] at h
    cases hz : f x (hev env y) with
    | none => rw [hz] at h; cases h
    | some z =>
      rw [hz] at h
      obtain ⟨cz, h1, h2⟩ := hfg hz hx (hE.eval y)
      obtain ⟨cv, h3, h4⟩ := fold_ok hfg l hE h h2
      refine ⟨cv, ?_, h4⟩
      simp only [List.map_cons, List.foldlM_cons]
      rw [rb h1]
      exact h3
theorem max2_ok {x y z : HV} {cx cy : Value} (h : vMax2 x y = some z) (hx : Rep m x cx) (hy : Rep m y cy) : ∃ cz, (Builtin.max2 cx cy).run P w = .ok cz w ∧ Rep m z cz := by
  unfold vMax2 at h
  split at h
  · cases hx; cases hy; cases h; exact ⟨_, rfl, .lit _⟩
  · cases h
theorem min2_ok {x y z : HV} {cx cy : Value} (h : vMin2 x y = some z) (hx : Rep m x cx) (hy : Rep m y cy) : ∃ cz, (Builtin.min2 cx cy).run P w = .ok cz w ∧ Rep m z cz := by
  unfold vMin2 at h
  split at h
  · cases hx; cases hy; cases h; exact ⟨_, rfl, .lit _⟩
  · cases h
theorem hbuiltin_ok {b : Builtin} {ats : Array TypeId} {ty : TypeId} {cs : Array Bool} {args : Array Operand} {env : List HV} {a : Act} {v : HV} (h : hbuiltin P b ats (args.toList.map (hev env)) s = some v) (hR : Rel m s w) (hE : EnvRep m env a) :
    ∃ cv, (builtin b ats ty cs (args.map a.eval)).run P w = .ok (.value cv) w ∧ Rep m v cv := by
  obtain ⟨args⟩ := args
  simp only at h
  simp only [List.map_toArray]
  unfold hbuiltin at h
  split at h
  · rename_i t x hat hxs
    cases args with
    | nil => cases hxs
    | cons y r =>
      simp only [List.map_cons, List.cons.injEq, List.map_eq_nil_iff] at hxs
      obtain ⟨rfl, rfl⟩ := hxs
      obtain ⟨cv, h1, h2⟩ := vLen_ok (ty := ty) hat h hR (hE.eval y)
      exact ⟨cv, run_val h1, h2⟩
  · rename_i x r hxs
    cases args with
    | nil => cases hxs
    | cons y r' =>
      simp only [List.map_cons, List.cons.injEq] at hxs
      obtain ⟨rfl, rfl⟩ := hxs
      obtain ⟨cv, h1, h2⟩ := fold_ok (g := Builtin.max2) max2_ok r' hE h (hE.eval y)
      exact ⟨cv, run_val (by simpa [Builtin.max_] using h1), h2⟩
  · rename_i x r hxs
    cases args with
    | nil => cases hxs
    | cons y r' =>
      simp only [List.map_cons, List.cons.injEq] at hxs
      obtain ⟨rfl, rfl⟩ := hxs
      obtain ⟨cv, h1, h2⟩ := fold_ok (g := Builtin.min2) min2_ok r' hE h (hE.eval y)
      exact ⟨cv, run_val (by simpa [Builtin.min_] using h1), h2⟩
  · cases h
theorem hconv_ok {src dst : TypeId} {x v : HV} {cx : Value} (h : hconv P src dst x s = some v) (hR : Rel m s w) (hx : Rep m x cx) : ∃ cv, (convert src dst cx).run P w = .ok cv w ∧ Rep m v cv := by
  unfold hconv at h
  split at h
  · rename_i d k hs hd
    unfold vToInt at h
    split at h
    · cases hx; cases h
      exact ⟨_, by simp [convert, run_underlying hs, run_underlying hd, Conv.intToInt], .lit _⟩
    · cases h
  · rename_i hs hd
    unfold vIsStr at h
    split at h
    · cases hx; cases h
      exact ⟨_, by simp [convert, run_underlying hs, run_underlying hd], .lit _⟩
    · cases h
  · rename_i e hs hd
    split at h
    · cases h
    rename_i hns
    split at h
    · rename_i he
      have hns' : ∀ b, x ≠ .lit (.string b) := fun b hb => hns (by rw [hb]; rfl)
      obtain ⟨cv, h1, h2⟩ := vToStr_ok h hR hx hns'
      refine ⟨cv, ?_, h2⟩
      obtain ⟨cs, hcs⟩ : ∃ cs, lcells s 1 x = some cs := by
        unfold vToStr at h
        cases hl : lcells s 1 x with
        | none => rw [hl] at h; cases h
        | some cs => exact ⟨cs, rfl⟩
      obtain ⟨a, n, cap, vs, rfl, -⟩ := lcells_ok hcs hR hx hns'
      rw [run_convert_bytes_string w src dst e a n cap hs he hd]
      exact h1
    · cases h
  · cases h
theorem hval_ok {o : Oper} {env : List HV} {a : Act} {v : HV} (h : hval P o.op env s = some v) (hR : Rel m s w) (hE : EnvRep m env a) : ∃ cv, (execOp a.eval o).run P w = .ok (.value cv) w ∧ Rep m v cv := by
  obtain ⟨dst, op, type, pos, after, guard⟩ := o
  simp only at h
  cases op <;> simp only [hval] at h <;> try (cases h; done)
  case move x => cases h; exact ⟨_, rfl, hE.eval x⟩
  case assign x => cases h; exact ⟨_, rfl, hE.eval x⟩
  case pick c p q => exact vPick_ok h (hE.eval c) (hE.eval p) (hE.eval q)
  case load t x =>
    split at h
    · rename_i n ag hn ha
      obtain ⟨cv, h1, h2⟩ := vLoad_ok hn ha h hR (hE.eval x)
      exact ⟨cv, run_val h1, h2⟩
    · cases h
  case nilCheck x =>
    have hx := hE.eval x
    simp only [execOp]
    generalize hev env x = y at h hx
    generalize a.eval x = u at hx
    unfold vNil at h
    split at h
    · cases h; cases hx with | ptr _ _ l hl => exact ⟨_, rfl, .ptr _ _ l hl⟩
    · cases h; cases hx with | elt _ _ b o f h0 h1 h2 => exact ⟨_, rfl, .elt _ _ b o f h0 h1 h2⟩
    · cases h; cases hx with | func _ _ vs hs hr => exact ⟨_, rfl, .func _ _ vs hs hr⟩
    · cases h
  case binOp op t x y yt =>
    obtain ⟨cv, h1, h2, h3⟩ := vCmp_ok (w := w) h (hE.eval x) (hE.eval y)
    refine ⟨cv, run_val ?_, h2⟩
    rw [h3 x y]
    exact h1
  case unOp op t x =>
    obtain ⟨cv, h1, h2⟩ := vUn_ok (P := P) (w := w) h (hE.eval x)
    exact ⟨cv, run_val h1, h2⟩
  case convert src dst x =>
    obtain ⟨cv, h1, h2⟩ := hconv_ok h hR (hE.eval x)
    exact ⟨cv, run_val h1, h2⟩
  case fieldAddr t x f =>
    split at h
    · rename_i u off hf
      split at h
      · rename_i n hn
        obtain ⟨cv, h1, h2⟩ := vField_ok (w := w) hf hn (Nat.succ_ne_zero _) h (hE.eval x)
        exact ⟨cv, run_val h1, h2⟩
      · cases h
    · cases h
  case field t x f =>
    split at h
    · rename_i u off hf
      split at h
      · rename_i n ag hn ha
        obtain ⟨cv, h1, h2⟩ := field_ok (w := w) hf hn ha h (hE.eval x)
        exact ⟨cv, run_val h1, h2⟩
      · cases h
    · cases h
  case indexAddr t x i =>
    split at h
    · rename_i e he
      split at h
      · rename_i sz hn
        obtain ⟨cv, h1, h2⟩ := vIdx_ok (w := w) he hn h (hE.eval x) (hE.eval i)
        exact ⟨cv, run_val h1, h2⟩
      · cases h
    · split at h
      · rename_i len e he
        split at h
        · rename_i sz hn
          obtain ⟨cv, h1, h2⟩ := vIdxArr_ok (w := w) he hn h (hE.eval x) (hE.eval i)
          exact ⟨cv, run_val h1, h2⟩
        · cases h
      · cases h
  case index t x i =>
    split at h
    · rename_i hd
      obtain ⟨cv, h1, h2⟩ := vStrIdx_ok (w := w) hd h (hE.eval x) (hE.eval i)
      exact ⟨cv, run_val h1, h2⟩
    · rename_i len e hd
      split at h
      · rename_i n ag hn ha
        obtain ⟨cv, h1, h2⟩ := vAggIdx_ok (w := w) (show tArr P t = some (len, e) by simp [tArr, hd]) hn ha h (hE.eval x) (hE.eval i)
        exact ⟨cv, run_val h1, h2⟩
      · cases h
    · cases h
  case slice t x lo hi mx =>
    split at h
    · rename_i e hd
      split at h
      · rename_i sz hn
        obtain ⟨cv, h1, h2⟩ := vSlice_ok (w := w) (show tElem P t = some e by simp [tElem, hd]) hn h (hE.eval x) (repO hE lo) (repO hE hi) (repO hE mx)
        exact ⟨cv, run_val h1, h2⟩
      · cases h
    · rename_i hd
      split at h
      · rename_i hmx
        obtain rfl : mx = none := by simpa using hmx
        obtain ⟨cv, h1, h2⟩ := vStrSlice_ok (w := w) hd h (hE.eval x) (repO hE lo) (repO hE hi)
        exact ⟨cv, run_val h1, h2⟩
      · cases h
    · cases h
  case extract x i =>
    obtain ⟨cv, h1, h2⟩ := vExtract_ok (P := P) (w := w) h (hE.eval x)
    exact ⟨cv, run_val h1, h2⟩
  case build t parts =>
    split at h
    · rename_i pl z hp hz
      obtain ⟨cv, h1, h2⟩ := vBuild_ok (w := w) (cparts := parts.map fun (i, x) => (i, a.eval x)) hp hz h (by rw [Array.toList_map]; exact repParts hE parts.toList)
      exact ⟨cv, run_val h1, h2⟩
    · cases h
  case lookup t x k ok =>
    split at h
    · rename_i kt et ht
      split at h
      · rename_i z hz
        cases hd : P.underlying kt with
        | none => rw [hd] at h; simp [vLookup] at h
        | some d =>
          rw [hd] at h
          obtain ⟨cv, h1, h2⟩ := vLookup_ok ht hd hz h hR (hE.eval x) (hE.eval k)
          exact ⟨cv, run_val h1, h2⟩
      · cases h
    · cases h
  case makeFunc fn first caps =>
    split at h
    · rename_i hf
      cases h
      obtain rfl : first = #[] := Array.eq_empty_of_size_eq_zero hf
      refine ⟨.func fn #[] (caps.map a.eval), run_val (x := Instr.makeFunc fn (#[].map a.eval) (caps.map a.eval)) (by simp [Instr.makeFunc]), .func fn _ _ (by simp) (fun j x hj => ?_)⟩
      have := repArgs hE caps.toList j x hj
      simpa [List.getD, Array.getD_eq_getD_getElem?] using this
    · cases h
  case call c =>
    obtain ⟨callee, args, ats⟩ := c
    cases callee <;> simp only at h <;> try (cases h; done)
    rename_i b
    obtain ⟨cv, h1, h2⟩ := hbuiltin_ok (ty := type) (cs := args.map fun | .const _ => true | _ => false) h hR hE
    exact ⟨cv, h1, h2⟩

theorem parts_toList {env : List HV} {a : Act} (hE : EnvRep m env a) (parts : Array (Nat × Operand)) : RepParts m (parts.toList.map fun p => (p.1, hev env p.2)) (parts.map fun (i, x) => (i, a.eval x)).toList := by
  rw [Array.toList_map]; exact repParts hE parts.toList
theorem srcTy_ok {t2 : TypeId} (h : srcTy (P.underlying t2) = true) : ∃ d2, P.underlying t2 = some d2 ∧ (d2 = .string ∨ ∃ e2, d2 = .slice e2) := by
  unfold srcTy at h
  split at h
  · rename_i hd; exact ⟨_, hd, .inl rfl⟩
  · rename_i e hd; exact ⟨_, hd, .inr ⟨e, rfl⟩⟩
  · cases h
theorem upon_ok {o : Oper} {a : Act} {next : Act → World → Prop} {Q : Exit → Act → World → Prop} {cv : Value} {w' : World} (h : (execOp a.eval o).run P w = .ok (.value cv) w') (hn : next (a.put o.dst cv) w') : o.wp P a w next Q := by
  unfold Oper.wp
  rw [h]
  exact hn
theorem upon_skip {o : Oper} {a : Act} {next : Act → World → Prop} {Q : Exit → Act → World → Prop} {w' : World} (h : (execOp a.eval o).run P w = .ok .skip w') (hn : next (a.put o.dst undef) w') : o.wp P a w next Q := by
  unfold Oper.wp
  rw [h]
  exact hn
/-- An operation that makes or writes does what is said. -/
theorem heff_ok {o : Oper} {env : List HV} {a : Act} {K : HV → HS → Prop} (h : heff P o.op env s K) (hR : Rel m s w) (hE : EnvRep m env a) {next : Act → World → Prop} {Q : Exit → Act → World → Prop}
    (hn : ∀ m' w' s' v cv, M.le m m' → Rel m' s' w' → Rep m' v cv → K v s' → next (a.put o.dst cv) w') : o.wp P a w next Q := by
  have did : ∀ {x : Sem Value}, Did m K (x.run P w) → execOp a.eval o = (do pure (Next.value (← x))) → o.wp P a w next Q := by
    intro x ⟨cv, w', v, s', m', h1, h2, h3, h4, h5⟩ hx
    exact upon_ok (by rw [hx]; exact run_val h1) (hn m' w' s' v cv h2 h3 h4 h5)
  obtain ⟨dst, op, type, pos, after, guard⟩ := o
  simp only at h
  cases op <;> simp only [heff] at h <;> try (exact h.elim)
  case alloc t =>
    split at h
    · rename_i z hz
      exact did (hAlloc_ok hz h hR) rfl
    · exact h.elim
  case box t x => exact did (hBox_ok (t := t) h hR (hE.eval x)) rfl
  case store t p x =>
    split at h
    · rename_i n hnn
      obtain ⟨w', s', h1, h2, h3⟩ := hStore_ok hnn h hR (hE.eval p) (hE.eval x)
      exact upon_skip (run_unit h1) (hn m w' s' _ _ (M.le.refl m) h2 (.lit undef) h3)
    · exact h.elim
  case buildSlice t n parts =>
    split at h
    · rename_i e he
      split at h
      · rename_i sz z hnn hz
        exact did (hBuildSlice_ok he hnn hz h hR (parts_toList hE parts)) rfl
      · exact h.elim
    · exact h.elim
  case makeSlice t l c =>
    split at h
    · rename_i e he
      split at h
      · rename_i sz by_ z hnn hb hz
        exact did (hMake_ok he hnn hb hz h hR (hE.eval l) (hE.eval c)) rfl
      · exact h.elim
    · exact h.elim
  case makeMap t r =>
    split at h
    · rename_i kt et ht
      split at h
      · rename_i d hd
        split at h
        rotate_left
        · exact h.elim
        rename_i hr
        rw [Bool.or_eq_true] at hr
        exact did (hMakeMap_ok ht (repO hE r) (hr.imp (fun h => by cases r <;> simp_all) id) h hR) rfl
      · exact h.elim
    · exact h.elim
  case mapUpdate t mp k v =>
    split at h
    · rename_i kt et ht
      obtain ⟨w', s', h1, h2, h3⟩ := hMapSet_ok ht h hR (hE.eval mp) (hE.eval k) (hE.eval v)
      exact upon_skip (run_unit h1) (hn m w' s' _ _ (M.le.refl m) h2 (.lit undef) h3)
    · exact h.elim
  case insert t mp k v =>
    split at h
    · rename_i kt et ht
      obtain ⟨w', s', h1, h2, h3⟩ := hMapSet_ok ht h hR (hE.eval mp) (hE.eval k) (hE.eval v)
      exact upon_skip (run_unit h1) (hn m w' s' _ _ (M.le.refl m) h2 (.lit undef) h3)
    · exact h.elim
  case convert src dst' x =>
    split at h
    · rename_i d0 e hs hd
      split at h
      · rename_i he
        have hx := hE.eval x
        split at h
        · rename_i hsd
          subst hsd
          refine did (x := convert src src (a.eval x)) ?_ rfl
          exact hMark_ok hd he h hR hx
        have hstr : ∃ b, hev env x = .lit (.string b) := by
          unfold hStrBytes at h
          split at h
          · rename_i b hb; exact ⟨b, hb⟩
          · exact h.elim
        obtain ⟨b, hb⟩ := hstr
        rw [hb] at h hx
        have hcx := lit_or hx rfl
        refine did (x := convert src dst' (a.eval x)) ?_ rfl
        rw [hcx]
        have hrun : (convert src dst' (.string b)).run P w = (Conv.stringToBytes e b).run P w := by
          cases d0 <;> simp [convert, run_underlying hs, run_underlying hd, run_underlying he]
        rw [hrun]
        exact hStrBytes_ok h hR (.lit _)
      · exact h.elim
    · exact h.elim
  case call c =>
    obtain ⟨callee, args, ats⟩ := c
    cases callee with
    | invoke r n => exact h.elim
    | builtin b =>
      cases b <;> simp only at h <;> try (exact h.elim)
      case append =>
        split at h
        · rename_i b x t t2 hargs hats
          obtain ⟨args⟩ := args
          obtain ⟨ats⟩ := ats
          simp only at hargs hats
          subst hargs; subst hats
          unfold happ at h
          split at h
          · rename_i e he
            split at h
            · rename_i sz by_ z hnn hb hz
              split at h
              rotate_left
              · exact h.elim
              rename_i hcc
              rw [Bool.and_eq_true, beq_iff_eq] at hcc
              obtain ⟨hzs, hsrc⟩ := hcc
              obtain ⟨d2, ht2, hd2⟩ := srcTy_ok hsrc
              exact did (hAppend_ok (ty := type) he hnn hb hz hzs ht2 hd2 h hR (hE.eval b) (hE.eval x)) (by simp [execOp, resolve, invoke, builtin])
            · exact h.elim
          · exact h.elim
        · exact h.elim
      case delete =>
        split at h
        · rename_i b x t t2 hargs hats
          obtain ⟨args⟩ := args
          obtain ⟨ats⟩ := ats
          simp only at hargs hats
          subst hargs; subst hats
          split at h
          · rename_i kt et ht
            obtain ⟨w', s', h1, h2, h3⟩ := hMapDel_ok (ty := type) ht h hR (hE.eval b) (hE.eval x) t2
            refine upon_ok (cv := .tuple #[]) (w' := w') ?_ (hn m w' s' _ _ (M.le.refl m) h2 (.lit _) h3)
            have := run_val h1
            simpa [execOp, resolve, invoke, builtin] using this
          · exact h.elim
        · exact h.elim
    | value f =>
      simp only [hcall] at h
      split at h
      · rename_i k caps hf
        split at h
        rotate_left
        · exact h.elim
        rename_i hp
        have hrf := hE.eval f
        rw [hf] at hrf
        generalize hcf : a.eval f = cf at hrf
        cases hrf with
        | func _ _ vs hs hr =>
        unfold plainFn at hp
        cases hfn : P.funcs[k]? with
        | none => rw [hfn] at hp; cases hp
        | some fn =>
          rw [hfn] at hp
          simp only [Bool.and_eq_true, bne_iff_ne, ne_eq] at hp
          obtain ⟨hb, hname⟩ := hp
          have hrun : (execOp a.eval { dst, op := .call ⟨.value f, args, ats⟩, type, pos, after, guard }).run P w = .ok (.enter k (args.map a.eval ++ vs)) w := by
            obtain ⟨c0, hbody⟩ := Option.isSome_iff_exists.1 hb
            simp [execOp, resolve, Deferred.ofValue, hcf, invoke, callFunc, hfn, hname, hbody]
          unfold Oper.wp
          rw [hrun]
          refine (h m w (args.map a.eval ++ vs) hR (by simp [hs]) (fun j x hj => ?_)).mono ?_
          · by_cases hlt : j < args.size
            · rw [List.getElem?_append_left (by simpa using hlt)] at hj
              have := repArgs hE args.toList j x hj
              have e : (args.map a.eval ++ vs).getD j undef = (args.toList.map a.eval).getD j undef := by
                simp only [List.getD, Array.getD_eq_getD_getElem?]
                rw [Array.getElem?_append_left (by simpa using hlt)]
                simp
              rw [e]; exact this
            · rw [List.getElem?_append_right (by simpa using hlt)] at hj
              have := hr _ x hj
              have e : (args.map a.eval ++ vs).getD j undef = vs.getD (j - (args.toList.map (hev env)).length) undef := by
                simp only [Array.getD_eq_getD_getElem?]
                rw [Array.getElem?_append_right (by simpa using hlt)]
                simp
              rw [e]; exact this
          · rintro e w' ⟨cv, v, s', m', rfl, h1, h2, h3, h4⟩
            exact hn m' w' s' v cv h1 h2 h3 h4
      · exact h.elim
end Go.Proofs.Ytecnfekcflfihaa.H
