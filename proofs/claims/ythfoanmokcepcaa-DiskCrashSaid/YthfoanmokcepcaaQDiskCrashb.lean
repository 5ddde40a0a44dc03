/- What the proof of the law DiskCrash needs, cut out of the session's own texts by a program (slim.py): part 2. -/
import Derived.Test.YthfoanmokcepcaaQDiskCrasha
section
namespace Go.Proofs.Ythfoanmokcepcaa.H
open Go.RowKit Go.MapKept
set_option linter.unusedVariables false
set_option linter.unusedSimpArgs false
variable {P : Program} {m : M} {s : HS} {w : World}
/-- No bounds; in a round, or in none. -/
def fR (ro : Option Nat) : Fence := { Fence.wide with round := ro }
theorem fR_calls {ro : Option Nat} {n : Nat} {f : FuncId} {args : Array Value} {w : World} {R : Ending → World → Prop} : CallsIn (fR ro) n P f args w R ↔ Calls P f args w R := callsIn_wide (n := n)
/-- Called in any world that stands for s, function f ends in what Q says. -/
def HC (P : Program) (f : FuncId) (args : List HV) (s : HS) (Q : HV → HS → Prop) : Prop :=
  ∀ (m : M) (w : World) (cargs : Array Value), Rel m s w → cargs.size = args.length → (∀ (j : Nat) x, args[j]? = some x → Rep m x (cargs.getD j undef)) →
    Calls P f cargs w fun e w' => ∃ cv v s' m', e = .returned cv ∧ M.le m m' ∧ Rel m' s' w' ∧ Rep m' v cv ∧ Q v s'
/-- The call of a range's yield is a round, which ends in what K says. -/
def HY (P : Program) (id : Nat) (args : List HV) (s : HS) (K : HV → HS → Prop) : Prop :=
  ∀ (m : M) (w : World) (cargs : Array Value) (l : Loc), Rel m s w → m.loc id = some l → cargs.size = args.length → (∀ (j : Nat) x, args[j]? = some x → Rep m x (cargs.getD j undef)) →
    ∃ fn tmps asg body, (Instr.yield l.b cargs).run P w = .ok (.round l.b fn tmps asg body) w ∧
      RoundIn Fence.wide 0 P l.b fn tmps asg body w fun e w' => ∃ cv v s' m', e = .returned cv ∧ M.le m m' ∧ Rel m' s' w' ∧ Rep m' v cv ∧ K v s'
theorem fR_round {ro : Option Nat} {n : Nat} {l : Nat} {f : FuncId} {tmps : Array Value} {asg body : Code} {w : World} {R : Ending → World → Prop} (h : RoundIn Fence.wide 0 P l f tmps asg body w R) : RoundIn (fR ro) n P l f tmps asg body w R :=
  ⟨trivial, fun c cs hr => h.2 c cs (room_wide _)⟩
/-- Values of a list. -/
def RepsL (m : M) (xs : List HV) (cvs : List Value) : Prop := cvs.length = xs.length ∧ ∀ (j : Nat) x, xs[j]? = some x → Rep m x (cvs.getD j undef)
theorem RepsL.mono {m m' : M} {xs : List HV} {cvs : List Value} (h : RepsL m xs cvs) (hm : M.le m m') : RepsL m' xs cvs := ⟨h.1, fun j x hj => (h.2 j x hj).mono hm⟩
/-- What stands for the first stands for the second as well. -/
def UpL (xs : List HV) (s : HS) (xs' : List HV) (s' : HS) : Prop :=
  ∀ (m : M) (w : World) (cvs : List Value), Rel m s w → RepsL m xs cvs → ∃ m', M.le m m' ∧ Rel m' s' w ∧ RepsL m' xs' cvs
theorem UpL.refl (xs : List HV) (s : HS) : UpL xs s xs s := fun m w cvs h k => ⟨m, M.le.refl m, h, k⟩
theorem UpL.trans {a b c : List HV} {s t u : HS} (h : UpL a s b t) (k : UpL b t c u) : UpL a s c u := fun m w cvs h1 h2 => by
  obtain ⟨m', g1, g2, g3⟩ := h m w cvs h1 h2
  obtain ⟨m'', q1, q2, q3⟩ := k m' w cvs g2 g3
  exact ⟨m'', g1.trans q1, q2, q3⟩
theorem UpL.le (xs : List HV) {s s' : HS} (h : HS.le s' s) : UpL xs s xs s' := fun m w cvs h1 h2 => ⟨m, M.le.refl m, h1.weaken h, h2⟩
theorem HC.mono {f : FuncId} {args : List HV} {Q Q' : HV → HS → Prop} (h : HC P f args s Q) (hq : ∀ v s', Q v s' → Q' v s') : HC P f args s Q' :=
  fun m w cargs hR hn ha => (h m w cargs hR hn ha).mono fun e w' ⟨cv, v, s', m', h1, h2, h3, h4, h5⟩ => ⟨cv, v, s', m', h1, h2, h3, h4, hq _ _ h5⟩
/-- A function with a body, and no name of the model's own. -/
def plainFn (P : Program) (f : FuncId) : Bool :=
  match P.funcs[f]? with
  | some fn => fn.body.isSome && fn.name != "runtime.NumGoroutine"
  | none => false
def isStrHV : HV → Bool
  | .lit (.string _) => true
  | _ => false
def hconv (P : Program) (src dst : TypeId) (x : HV) (s : HS) : Option HV :=
  match P.underlying src, P.underlying dst with
  | some _, some (.int k) => vToInt k x
  | some .string, some .string => vIsStr x
  | some (.slice e), some .string => if isStrHV x then none else (match P.underlying e with
    | some (.int .u8) => vToStr s x
    | _ => none)
  | _, _ => none
def hfold (f : HV → HV → Option HV) : HV → List HV → Option HV
  | x, [] => some x
  | x, y :: r => (f x y).bind fun z => hfold f z r
def vLenT (d : Option TypeDesc) (s : HS) (x : HV) : Option HV :=
  match d, x with
  | some .string, .lit (.string _) => vLen s x
  | some (.slice _), .list _ _ _ _ => vLen s x
  | some (.slice _), .view _ _ _ _ _ => vLen s x
  | some (.slice _), .ne _ => vLen s x
  | some (.slice _), .nils => vLen s x
  | some (.slice _), .lit (.slice _ _ _) => vLen s x
  | some (.map _ _), .map _ => vLen s x
  | some (.map _ _), .lit (.map none) => vLen s x
  | _, _ => none
def hbuiltin (P : Program) (b : Builtin) (argTypes : Array TypeId) (xs : List HV) (s : HS) : Option HV :=
  match b, argTypes[0]?, xs with
  | .len, some t, [x] => vLenT (P.underlying t) s x
  | .max, _, x :: r => hfold vMax2 x r
  | .min, _, x :: r => hfold vMin2 x r
  | _, _, _ => none
def hval (P : Program) (op : Op) (env : List HV) (s : HS) : Option HV :=
  match op with
  | .move x => some (hev env x)
  | .assign x => some (hev env x)
  | .pick c a b => vPick (hev env c) (hev env a) (hev env b)
  | .nilCheck x => vNil (hev env x)
  | .binOp op t x y _ => (match flatD P t with | some ds => vCmpS ds op (hev env x) (hev env y) | none => vCmp (P.underlying t) op (hev env x) (hev env y))
  | .unOp op _ x => vUn op (hev env x)
  | .convert src dst x => hconv P src dst (hev env x) s
  | .fieldAddr t x f => (match tField P t f with
    | some (u, off) => (match tSize P u with | some (_ + 1) => vField off (hev env x) | _ => none)
    | none => none)
  | .field t x f => (match tField P t f with
    | some (u, off) => (match tSize P u, tAgg P u with | some n, some ag => vPart off n ag (hev env x) | _, _ => none)
    | none => none)
  | .indexAddr t x i => (match tElem P t with
    | some e => (match tSize P e with | some sz => vIdx sz (hev env x) (hev env i) | none => none)
    | none => (match tArr P t with
      | some (len, e) => (match tSize P e with | some sz => vIdxArr len sz (hev env x) (hev env i) | none => none)
      | none => none))
  | .index t x i => (match P.underlying t with
    | some .string => vStrIdx (hev env x) (hev env i)
    | some (.array len e) => (match tSize P e, tAgg P e with | some n, some ag => vAggIdx len n ag (hev env x) (hev env i) | _, _ => none)
    | _ => none)
  | .slice t x lo hi mx => (match P.underlying t with
    | some (.slice e) => (match tSize P e with | some sz => (match lo, hi, mx with | some l, some h, none => vSliceS s sz (hev env x) (hev env l) (hev env h) | _, _, _ => vSliceX sz (hev env x) (lo.map (hev env)) (hi.map (hev env)) (mx.map (hev env))) | none => none)
    | some .string => if mx.isNone then vStrSlice (hev env x) (lo.map (hev env)) (hi.map (hev env)) else none
    | _ => none)
  | .extract x i => vExtract (hev env x) i
  | .build t parts => (match tPlace P t, tZero P t with
    | some pl, some z => vBuild pl z (parts.toList.map fun p => (p.1, hev env p.2))
    | _, _ => none)
  | .load t x => (match tSize P t, tAgg P t with | some n, some ag => vLoad s (hev env x) n ag | _, _ => none)
  | .lookup t x k ok => (match P.underlying t with
    | some (.map kt et) => (match tZero P et with | some z => vLookup s (P.underlying kt) (.lit z) (hev env x) (hev env k) ok | none => none)
    | _ => none)
  | .makeFunc fn first caps => if first.size = 0 then some (.func fn (caps.toList.map (hev env))) else none
  | .entry x => vEntry s (hev env x)
  | .call { callee := .builtin b, args, argTypes } => hbuiltin P b argTypes (args.toList.map (hev env)) s
  | _ => none
/-- Operations that make or write. -/
def isEff (P : Program) (op : Op) : Bool :=
  match op with
  | .alloc _ | .box _ _ | .store _ _ _ | .buildSlice _ _ _ | .makeSlice _ _ _ | .makeMap _ _ | .mapUpdate _ _ _ _ | .insert _ _ _ _ | .range _ _ | .next _ _ => true
  | .call { callee := .builtin .append, .. } => true
  | .call { callee := .builtin .delete, .. } => true
  | .call { callee := .builtin .clear, .. } => true
  | .call { callee := .value _, .. } => true
  | .convert _ dst _ => (match P.underlying dst with | some (.slice _) => true | _ => false)
  | _ => false
def hcall (P : Program) (f : HV) (args : List HV) (s : HS) (K : HV → HS → Prop) : Prop :=
  match f with
  | .func (.func f) caps => hite (plainFn P f) (HC P f (args ++ caps) s K) False
  | .yld id => HY P id args s K
  | _ => False
def srcTy : Option TypeDesc → Bool
  | some .string => true
  | some (.slice _) => true
  | _ => false
def happ (P : Program) (t t2 : TypeId) (b x : HV) (s : HS) (K : HV → HS → Prop) : Prop :=
  match tElem P t with
  | some e => (match tSize P e, tBytes P e, tZero P e with
    | some sz, some by_, some z => hite (z.cells.size == sz && srcTy (P.underlying t2)) (hAppend s sz by_ b x K) False
    | _, _, _ => False)
  | none => False
def heff (P : Program) (op : Op) (env : List HV) (s : HS) (K : HV → HS → Prop) : Prop :=
  match op with
  | .alloc t => (match tZero P t with | some z => hBox s (.lit z) K | none => False)
  | .box _ x => hBox s (hev env x) K
  | .store t a x => (match tSize P t with | some n => hStore s (hev env a) (hev env x) n (K (.lit undef)) | none => False)
  | .buildSlice t n parts => (match tElem P t with
    | some e => (match tSize P e, tZero P e with | some sz, some z => hBuildSlice s sz n z (parts.toList.map fun p => (p.1, hev env p.2)) K | _, _ => False)
    | none => False)
  | .makeSlice t l c => (match tElem P t with
    | some e => (match tSize P e, tBytes P e, tZero P e with | some sz, some by_, some z => hMake s sz by_ z (hev env l) (hev env c) K | _, _, _ => False)
    | none => False)
  | .makeMap t r => (match P.underlying t with
    | some (.map kt _) => (match P.underlying kt with
      | some d => hite (r.isNone || (intAt (r.map (hev env))).isSome) (hNew s (.map d (fun _ => none) 0) (fun id => .map id) K) False
      | none => False)
    | _ => False)
  | .mapUpdate t mp k v => (match P.underlying t with | some (.map kt _) => hMapSet s (P.underlying kt) (hev env mp) (hev env k) (hev env v) (K (.lit undef)) | _ => False)
  | .insert t mp k v => (match P.underlying t with | some (.map kt _) => hMapSet s (P.underlying kt) (hev env mp) (hev env k) (hev env v) (K (.lit undef)) | _ => False)
  | .range t x => (match P.underlying t with | some (.map _ _) => hRangeM s (hev env x) K | _ => False)
  | .next x str => (match str with | false => hNext s (hev env x) K | true => False)
  | .convert src dst x => (match P.underlying src, P.underlying dst with
    | some _, some (.slice e) => (match P.underlying e with | some (.int .u8) => hite (src = dst) (hMark s (hev env x) K) (hStrBytes s (hev env x) K) | _ => False)
    | _, _ => False)
  | .call { callee := .builtin .append, args, argTypes } => (match args.toList, argTypes.toList with
    | [b, x], [t, t2] => happ P t t2 (hev env b) (hev env x) s K
    | _, _ => False)
  | .call { callee := .builtin .delete, args, argTypes } => (match args.toList, argTypes.toList with
    | [b, x], [t, _] => (match P.underlying t with | some (.map kt _) => hMapDel s (P.underlying kt) (hev env b) (hev env x) (K (.lit (.tuple #[]))) | _ => False)
    | _, _ => False)
  | .call { callee := .builtin .clear, args, argTypes } => (match args.toList, argTypes.toList with
    | [x], [t] => (match tElem P t with
      | some e => (match tZero P e with | some z => hite (z.cells.toList.all Value.oneCell') (hClear s z.cells.size z (hev env x) (K (.lit (.tuple #[])))) False | none => False)
      | none => False)
    | _, _ => False)
  | .call { callee := .value f, args, argTypes := _ } => hcall P (hev env f) (args.toList.map (hev env)) s K
  | _ => False
theorem run_val {x : Sem Value} {cv : Value} {w' : World} (h : x.run P w = .ok cv w') : (do pure (Next.value (← x)) : Sem Next).run P w = .ok (.value cv) w' := by
  show (x >>= fun a => pure (Next.value a)).run P w = _
  rw [rb h]; rfl
theorem run_unit {x : Sem Unit} {w' : World} (h : x.run P w = .ok () w') : (do x; pure Next.skip : Sem Next).run P w = .ok .skip w' := by
  show (x >>= fun _ => pure Next.skip).run P w = _
  rw [rb h]; rfl
theorem repO {env : List HV} {a : Act} (hE : EnvRep m env a) (x : Option Operand) : RepO m (x.map (hev env)) (x.map a.eval) := by
  cases x with
  | none => trivial
  | some x => exact hE.eval x
theorem repParts {env : List HV} {a : Act} (hE : EnvRep m env a) : ∀ l : List (Nat × Operand), RepParts m (l.map fun p => (p.1, hev env p.2)) (l.map fun p => (p.1, a.eval p.2))
  | [] => trivial
  | p :: l => ⟨rfl, hE.eval p.2, repParts hE l⟩
theorem repArgs {env : List HV} {a : Act} (hE : EnvRep m env a) (l : List Operand) : ∀ (j : Nat) x, (l.map (hev env))[j]? = some x → Rep m x ((l.map a.eval).getD j undef) := by
  intro j x hj
  rw [List.getElem?_map] at hj
  cases hl : l[j]? with
  | none => rw [hl] at hj; cases hj
  | some q =>
    rw [hl] at hj
    cases hj
    have : (l.map a.eval).getD j undef = a.eval q := by simp [List.getD, hl]
    rw [this]; exact hE.eval q
theorem vLen_ok {t ty : TypeId} {ats : Array TypeId} {x v : HV} {cx : Value} (hat : ats[0]? = some t)
    (h : vLenT (P.underlying t) s x = some v) (hR : Rel m s w) (hx : Rep m x cx) : ∃ cv, (Builtin.len_ ats ty #[cx]).run P w = .ok cv w ∧ Rep m v cv := by
  unfold vLenT at h
  split at h
  · rename_i hd; cases hx; simp only [vLen, Option.some.injEq] at h; subst h; exact ⟨_, by simp [Builtin.len_, hat, run_underlying hd, goInt], .lit _⟩
  · rename_i hd
    simp only [vLen, Option.some.injEq] at h; subst h
    cases hx <;> exact ⟨_, by simp [Builtin.len_, hat, run_underlying hd, goInt], .lit _⟩
  · rename_i hd
    simp only [vLen, Option.some.injEq] at h; subst h
    cases hx <;> exact ⟨_, by simp [Builtin.len_, hat, run_underlying hd, goInt], .lit _⟩
  · rename_i hd
    simp only [vLen, Option.some.injEq] at h; subst h
    cases hx <;> exact ⟨_, by simp [Builtin.len_, hat, run_underlying hd, goInt], .lit _⟩
  · rename_i hd
    simp only [vLen, Option.some.injEq] at h; subst h
    cases hx <;> exact ⟨_, by simp [Builtin.len_, hat, run_underlying hd, goInt], .lit _⟩
  · rename_i hd; cases hx; simp only [vLen, Option.some.injEq] at h; subst h; exact ⟨_, by simp [Builtin.len_, hat, run_underlying hd, goInt], .lit _⟩
  · rename_i id hd
    simp only [vLen] at h
    split at h
    · rename_i d f n hs
      cases h
      cases hx with
      | map _ l hl =>
      obtain ⟨es, cl, g1, g2, -⟩ := hR.objs _ _ _ hs hl
      have hg := Go.MapKept.run_getObj_map (P := P) g1
      exact ⟨_, by simp [Builtin.len_, hat, run_underlying hd, goInt, hg, g2], .lit _⟩
    · cases h
  · rename_i hd; cases hx; simp only [vLen, Option.some.injEq] at h; subst h; exact ⟨_, by simp [Builtin.len_, hat, run_underlying hd, goInt], .lit _⟩
  · cases h
theorem fold_ok {f : HV → HV → Option HV} {g : Value → Value → Sem Value} (hfg : ∀ {x y z : HV} {cx cy : Value}, f x y = some z → Rep m x cx → Rep m y cy → ∃ cz, (g cx cy).run P w = .ok cz w ∧ Rep m z cz) :
    ∀ (l : List Operand) {env : List HV} {a : Act} {x v : HV} {cx : Value}, EnvRep m env a → hfold f x (l.map (hev env)) = some v → Rep m x cx → ∃ cv, ((l.map a.eval).foldlM g cx).run P w = .ok cv w ∧ Rep m v cv
  | [], env, a, x, v, cx, hE, h, hx => by simp only [List.map_nil, hfold, Option.some.injEq] at h; subst h; exact ⟨cx, rfl, hx⟩
  | y :: l, env, a, x, v, cx, hE, h, hx => by
    simp only [List.map_cons, hfold] at h
    cases hz : f x (hev env y) with
    | none => rw [hz] at h; cases h
    | some z =>
      rw [hz] at h
      obtain ⟨cz, h1, h2⟩ := hfg hz hx (hE.eval y)
      obtain ⟨cv, h3, h4⟩ := fold_ok hfg l hE h h2
      refine ⟨cv, ?_, h4⟩
      simp only [List.map_cons, List.foldlM_cons]
      rw [rb h1]
      exact h3
theorem max2_ok {x y z : HV} {cx cy : Value} (h : vMax2 x y = some z) (hx : Rep m x cx) (hy : Rep m y cy) : ∃ cz, (Builtin.max2 cx cy).run P w = .ok cz w ∧ Rep m z cz := by
  unfold vMax2 at h
  split at h
  · cases hx; cases hy; cases h; exact ⟨_, rfl, .lit _⟩
  · cases h
theorem min2_ok {x y z : HV} {cx cy : Value} (h : vMin2 x y = some z) (hx : Rep m x cx) (hy : Rep m y cy) : ∃ cz, (Builtin.min2 cx cy).run P w = .ok cz w ∧ Rep m z cz := by
  unfold vMin2 at h
  split at h
  · cases hx; cases hy; cases h; exact ⟨_, rfl, .lit _⟩
  · cases h
theorem hbuiltin_ok {b : Builtin} {ats : Array TypeId} {ty : TypeId} {cs : Array Bool} {args : Array Operand} {env : List HV} {a : Act} {v : HV} (h : hbuiltin P b ats (args.toList.map (hev env)) s = some v) (hR : Rel m s w) (hE : EnvRep m env a) :
    ∃ cv, (builtin b ats ty cs (args.map a.eval)).run P w = .ok (.value cv) w ∧ Rep m v cv := by
  obtain ⟨args⟩ := args
  simp only at h
  simp only [List.map_toArray]
  unfold hbuiltin at h
  split at h
  · rename_i t x hat hxs
    cases args with
    | nil => cases hxs
    | cons y r =>
      simp only [List.map_cons, List.cons.injEq, List.map_eq_nil_iff] at hxs
      obtain ⟨rfl, rfl⟩ := hxs
      obtain ⟨cv, h1, h2⟩ := vLen_ok (ty := ty) hat h hR (hE.eval y)
      exact ⟨cv, run_val h1, h2⟩
  · rename_i x r hxs
    cases args with
    | nil => cases hxs
    | cons y r' =>
      simp only [List.map_cons, List.cons.injEq] at hxs
      obtain ⟨rfl, rfl⟩ := hxs
      obtain ⟨cv, h1, h2⟩ := fold_ok (g := Builtin.max2) max2_ok r' hE h (hE.eval y)
      exact ⟨cv, run_val (by simpa [Builtin.max_] using h1), h2⟩
  · rename_i x r hxs
    cases args with
    | nil => cases hxs
    | cons y r' =>
      simp only [List.map_cons, List.cons.injEq] at hxs
      obtain ⟨rfl, rfl⟩ := hxs
      obtain ⟨cv, h1, h2⟩ := fold_ok (g := Builtin.min2) min2_ok r' hE h (hE.eval y)
      exact ⟨cv, run_val (by simpa [Builtin.min_] using h1), h2⟩
  · cases h
theorem hconv_ok {src dst : TypeId} {x v : HV} {cx : Value} (h : hconv P src dst x s = some v) (hR : Rel m s w) (hx : Rep m x cx) : ∃ cv, (convert src dst cx).run P w = .ok cv w ∧ Rep m v cv := by
  unfold hconv at h
  split at h
  · rename_i d k hs hd
    unfold vToInt at h
    split at h
    · cases hx; cases h
      exact ⟨_, by simp [convert, run_underlying hs, run_underlying hd, Conv.intToInt], .lit _⟩
    · cases h
  · rename_i hs hd
    unfold vIsStr at h
    split at h
    · cases hx; cases h
      exact ⟨_, by simp [convert, run_underlying hs, run_underlying hd], .lit _⟩
    · cases h
  · rename_i e hs hd
    split at h
    · cases h
    rename_i hns
    split at h
    · rename_i he
      have hns' : ∀ b, x ≠ .lit (.string b) := fun b hb => hns (by rw [hb]; rfl)
      obtain ⟨cv, h1, h2⟩ := vToStr_ok h hR hx hns'
      refine ⟨cv, ?_, h2⟩
      obtain ⟨cs, hcs⟩ : ∃ cs, lcells s 1 x = some cs := by
        unfold vToStr at h
        cases hl : lcells s 1 x with
        | none => rw [hl] at h; cases h
        | some cs => exact ⟨cs, rfl⟩
      obtain ⟨a, n, cap, vs, rfl, -⟩ := lcells_ok hcs hR hx hns'
      rw [run_convert_bytes_string w src dst e a n cap hs he hd]
      exact h1
    · cases h
  · cases h
theorem hval_ok {o : Oper} {env : List HV} {a : Act} {v : HV} (h : hval P o.op env s = some v) (hR : Rel m s w) (hE : EnvRep m env a) : ∃ cv, (execOp a.eval o).run P w = .ok (.value cv) w ∧ Rep m v cv := by
  obtain ⟨dst, op, type, pos, after, guard⟩ := o
  simp only at h
  cases op <;> simp only [hval] at h <;> try (cases h; done)
  case move x => cases h; exact ⟨_, rfl, hE.eval x⟩
  case assign x => cases h; exact ⟨_, rfl, hE.eval x⟩
  case pick c p q => exact vPick_ok h (hE.eval c) (hE.eval p) (hE.eval q)
  case load t x =>
    split at h
    · rename_i n ag hn ha
      obtain ⟨cv, h1, h2⟩ := vLoad_ok hn ha h hR (hE.eval x)
      exact ⟨cv, run_val h1, h2⟩
    · cases h
  case nilCheck x =>
    have hx := hE.eval x
    simp only [execOp]
    generalize hev env x = y at h hx
    generalize a.eval x = u at hx
    unfold vNil at h
    split at h
    · cases h; cases hx with | ptr _ _ l hl => exact ⟨_, rfl, .ptr _ _ l hl⟩
    · cases h; cases hx with | elt _ _ b o f h0 h1 h2 => exact ⟨_, rfl, .elt _ _ b o f h0 h1 h2⟩
    · cases h; cases hx with | func _ _ vs hs hr => exact ⟨_, rfl, .func _ _ vs hs hr⟩
    · cases h; cases hx with | yld _ l hl => exact ⟨_, rfl, .yld _ l hl⟩
    · cases h
  case binOp op t x y yt =>
    split at h
    · rename_i ds hds
      obtain ⟨cv, h1, h2, h3⟩ := vCmpS_ok (w := w) hds h (hE.eval x) (hE.eval y)
      refine ⟨cv, run_val ?_, h2⟩
      show (eqGuard op t x y (a.eval x) (a.eval y) >>= fun _ => binOp op t (a.eval x) (a.eval y)).run P w = _
      rw [rb (h3 x y)]
      exact h1
    · obtain ⟨cv, h1, h2, h3⟩ := vCmp_ok (w := w) h (hE.eval x) (hE.eval y)
      refine ⟨cv, run_val ?_, h2⟩
      rw [h3 x y]
      exact h1
  case unOp op t x =>
    obtain ⟨cv, h1, h2⟩ := vUn_ok (P := P) (w := w) h (hE.eval x)
    exact ⟨cv, run_val h1, h2⟩
  case convert src dst x =>
    obtain ⟨cv, h1, h2⟩ := hconv_ok h hR (hE.eval x)
    exact ⟨cv, run_val h1, h2⟩
  case fieldAddr t x f =>
    split at h
    · rename_i u off hf
      split at h
      · rename_i n hn
        obtain ⟨cv, h1, h2⟩ := vField_ok (w := w) hf hn (Nat.succ_ne_zero _) h (hE.eval x)
        exact ⟨cv, run_val h1, h2⟩
      · cases h
    · cases h
  case field t x f =>
    split at h
    · rename_i u off hf
      split at h
      · rename_i n ag hn ha
        obtain ⟨cv, h1, h2⟩ := field_ok (w := w) hf hn ha h (hE.eval x)
        exact ⟨cv, run_val h1, h2⟩
      · cases h
    · cases h
  case indexAddr t x i =>
    split at h
    · rename_i e he
      split at h
      · rename_i sz hn
        obtain ⟨cv, h1, h2⟩ := vIdx_ok (w := w) he hn h (hE.eval x) (hE.eval i)
        exact ⟨cv, run_val h1, h2⟩
      · cases h
    · split at h
      · rename_i len e he
        split at h
        · rename_i sz hn
          obtain ⟨cv, h1, h2⟩ := vIdxArr_ok (w := w) he hn h (hE.eval x) (hE.eval i)
          exact ⟨cv, run_val h1, h2⟩
        · cases h
      · cases h
  case index t x i =>
    split at h
    · rename_i hd
      obtain ⟨cv, h1, h2⟩ := vStrIdx_ok (w := w) hd h (hE.eval x) (hE.eval i)
      exact ⟨cv, run_val h1, h2⟩
    · rename_i len e hd
      split at h
      · rename_i n ag hn ha
        obtain ⟨cv, h1, h2⟩ := vAggIdx_ok (w := w) (show tArr P t = some (len, e) by simp [tArr, hd]) hn ha h (hE.eval x) (hE.eval i)
        exact ⟨cv, run_val h1, h2⟩
      · cases h
    · cases h
  case slice t x lo hi mx =>
    split at h
    · rename_i e hd
      split at h
      · rename_i sz hn
        split at h
        · rename_i l hh
          obtain ⟨cv, h1, h2⟩ := vSliceS_ok (w := w) (show tElem P t = some e by simp [tElem, hd]) hn h hR (hE.eval x) (hE.eval l) (hE.eval hh)
          exact ⟨cv, run_val h1, h2⟩
        · obtain ⟨cv, h1, h2⟩ := vSliceX_ok (w := w) (show tElem P t = some e by simp [tElem, hd]) hn h (hE.eval x) (repO hE lo) (repO hE hi) (repO hE mx)
          exact ⟨cv, run_val h1, h2⟩
      · cases h
    · rename_i hd
      split at h
      · rename_i hmx
        obtain rfl : mx = none := by simpa using hmx
        obtain ⟨cv, h1, h2⟩ := vStrSlice_ok (w := w) hd h (hE.eval x) (repO hE lo) (repO hE hi)
        exact ⟨cv, run_val h1, h2⟩
      · cases h
    · cases h
  case extract x i =>
    obtain ⟨cv, h1, h2⟩ := vExtract_ok (P := P) (w := w) h (hE.eval x)
    exact ⟨cv, run_val h1, h2⟩
  case build t parts =>
    split at h
    · rename_i pl z hp hz
      obtain ⟨cv, h1, h2⟩ := vBuild_ok (w := w) (cparts := parts.map fun (i, x) => (i, a.eval x)) hp hz h (by rw [Array.toList_map]; exact repParts hE parts.toList)
      exact ⟨cv, run_val h1, h2⟩
    · cases h
  case lookup t x k ok =>
    split at h
    · rename_i kt et ht
      split at h
      · rename_i z hz
        cases hd : P.underlying kt with
        | none => rw [hd] at h; simp [vLookup] at h
        | some d =>
          rw [hd] at h
          obtain ⟨cv, h1, h2⟩ := vLookup_ok ht hd hz h hR (hE.eval x) (hE.eval k)
          exact ⟨cv, run_val h1, h2⟩
      · cases h
    · cases h
  case makeFunc fn first caps =>
    split at h
    · rename_i hf
      cases h
      obtain rfl : first = #[] := Array.eq_empty_of_size_eq_zero hf
      refine ⟨.func fn #[] (caps.map a.eval), run_val (x := Instr.makeFunc fn (#[].map a.eval) (caps.map a.eval)) (by simp [Instr.makeFunc]), .func fn _ _ (by simp) (fun j x hj => ?_)⟩
      have := repArgs hE caps.toList j x hj
      simpa [List.getD, Array.getD_eq_getD_getElem?] using this
    · cases h
  case entry x =>
    obtain ⟨cv, h1, h2⟩ := vEntry_ok (P := P) h hR (hE.eval x)
    exact ⟨cv, run_val h1, h2⟩
  case call c =>
    obtain ⟨callee, args, ats⟩ := c
    cases callee <;> simp only at h <;> try (cases h; done)
    rename_i b
    obtain ⟨cv, h1, h2⟩ := hbuiltin_ok (ty := type) (cs := args.map fun | .const _ => true | _ => false) h hR hE
    exact ⟨cv, h1, h2⟩
theorem parts_toList {env : List HV} {a : Act} (hE : EnvRep m env a) (parts : Array (Nat × Operand)) : RepParts m (parts.toList.map fun p => (p.1, hev env p.2)) (parts.map fun (i, x) => (i, a.eval x)).toList := by
  rw [Array.toList_map]; exact repParts hE parts.toList
theorem srcTy_ok {t2 : TypeId} (h : srcTy (P.underlying t2) = true) : ∃ d2, P.underlying t2 = some d2 ∧ (d2 = .string ∨ ∃ e2, d2 = .slice e2) := by
  unfold srcTy at h
  split at h
  · rename_i hd; exact ⟨_, hd, .inl rfl⟩
  · rename_i e hd; exact ⟨_, hd, .inr ⟨e, rfl⟩⟩
  · cases h
variable {ro : Option Nat} {nn : Nat}
theorem upon_ok {o : Oper} {a : Act} {next : Act → World → Prop} {Q : Exit → Act → World → Prop} {cv : Value} {w' : World} (hd : ∀ c, o.op ≠ .defer c) (h : (execOp a.eval o).run P w = .ok (.value cv) w') (hn : next (a.put o.dst cv) w') : o.wpIn (fR ro) nn P a w next Q := by
  unfold Oper.wpIn
  refine ⟨fun _ _ => trivial, ?_⟩
  rw [Oper.semAt_eq _ _ _ hd, h]
  exact hn
theorem upon_skip {o : Oper} {a : Act} {next : Act → World → Prop} {Q : Exit → Act → World → Prop} {w' : World} (hd : ∀ c, o.op ≠ .defer c) (h : (execOp a.eval o).run P w = .ok .skip w') (hn : next (a.put o.dst undef) w') : o.wpIn (fR ro) nn P a w next Q := by
  unfold Oper.wpIn
  refine ⟨fun _ _ => trivial, ?_⟩
  rw [Oper.semAt_eq _ _ _ hd, h]
  exact hn
/-- An operation that makes or writes does what is said. -/
theorem heff_ok {o : Oper} {env : List HV} {a : Act} {K : HV → HS → Prop} (h : heff P o.op env s K) (hR : Rel m s w) (hE : EnvRep m env a) {next : Act → World → Prop} {Q : Exit → Act → World → Prop}
    (hn : ∀ m' w' s' v cv, M.le m m' → Rel m' s' w' → Rep m' v cv → K v s' → next (a.put o.dst cv) w') : o.wpIn (fR ro) nn P a w next Q := by
  have hnd : ∀ c, o.op ≠ .defer c := fun c hc => by rw [hc] at h; exact h
  have did : ∀ {x : Sem Value}, Did m K (x.run P w) → execOp a.eval o = (do pure (Next.value (← x))) → o.wpIn (fR ro) nn P a w next Q := by
    intro x ⟨cv, w', v, s', m', h1, h2, h3, h4, h5⟩ hx
    exact upon_ok hnd (by rw [hx]; exact run_val h1) (hn m' w' s' v cv h2 h3 h4 h5)
  obtain ⟨dst, op, type, pos, after, guard⟩ := o
  simp only at h
  cases op <;> simp only [heff] at h <;> try (exact h.elim)
  case alloc t =>
    split at h
    · rename_i z hz
      exact did (hAlloc_ok hz h hR) rfl
    · exact h.elim
  case box t x => exact did (hBox_ok (t := t) h hR (hE.eval x)) rfl
  case store t p x =>
    split at h
    · rename_i n hnn
      obtain ⟨w', s', h1, h2, h3⟩ := hStore_ok hnn h hR (hE.eval p) (hE.eval x)
      exact upon_skip hnd (run_unit h1) (hn m w' s' _ _ (M.le.refl m) h2 (.lit undef) h3)
    · exact h.elim
  case buildSlice t n parts =>
    split at h
    · rename_i e he
      split at h
      · rename_i sz z hnn hz
        exact did (hBuildSlice_ok he hnn hz h hR (parts_toList hE parts)) rfl
      · exact h.elim
    · exact h.elim
  case makeSlice t l c =>
    split at h
    · rename_i e he
      split at h
      · rename_i sz by_ z hnn hb hz
        exact did (hMake_ok he hnn hb hz h hR (hE.eval l) (hE.eval c)) rfl
      · exact h.elim
    · exact h.elim
  case makeMap t r =>
    split at h
    · rename_i kt et ht
      split at h
      · rename_i d hd
        rw [hite_eq] at h
        split at h
        rotate_left
        · exact h.elim
        rename_i hr
        rw [Bool.or_eq_true] at hr
        exact did (hMakeMap_ok ht (repO hE r) (hr.imp (fun h => by cases r <;> simp_all) id) h hR) rfl
      · exact h.elim
    · exact h.elim
  case range t x =>
    split at h
    · rename_i kt et ht
      exact did (hRangeM_ok ht h hR (hE.eval x)) rfl
    · exact h.elim
  case next x str =>
    split at h
    · exact did (hNext_ok (ty := type) h hR (hE.eval x)) rfl
    · exact h.elim
  case mapUpdate t mp k v =>
    split at h
    · rename_i kt et ht
      obtain ⟨w', s', h1, h2, h3⟩ := hMapSet_ok ht h hR (hE.eval mp) (hE.eval k) (hE.eval v)
      exact upon_skip hnd (run_unit h1) (hn m w' s' _ _ (M.le.refl m) h2 (.lit undef) h3)
    · exact h.elim
  case insert t mp k v =>
    split at h
    · rename_i kt et ht
      obtain ⟨w', s', h1, h2, h3⟩ := hMapSet_ok ht h hR (hE.eval mp) (hE.eval k) (hE.eval v)
      exact upon_skip hnd (run_unit h1) (hn m w' s' _ _ (M.le.refl m) h2 (.lit undef) h3)
    · exact h.elim
  case convert src dst' x =>
    split at h
    · rename_i d0 e hs hd
      split at h
      · rename_i he
        have hx := hE.eval x
        rw [hite_eq] at h
        split at h
        · rename_i hsd
          subst hsd
          refine did (x := convert src src (a.eval x)) ?_ rfl
          exact hMark_ok hd he h hR hx
        have hstr : ∃ b, hev env x = .lit (.string b) := by
          unfold hStrBytes at h
          split at h
          · rename_i b hb; exact ⟨b, hb⟩
          · exact h.elim
        obtain ⟨b, hb⟩ := hstr
        rw [hb] at h hx
        have hcx := lit_or hx rfl
        refine did (x := convert src dst' (a.eval x)) ?_ rfl
        rw [hcx]
        have hrun : (convert src dst' (.string b)).run P w = (Conv.stringToBytes e b).run P w := by
          cases d0 <;> simp [convert, run_underlying hs, run_underlying hd, run_underlying he]
        rw [hrun]
        exact hStrBytes_ok h hR (.lit _)
      · exact h.elim
    · exact h.elim
  case call c =>
    obtain ⟨callee, args, ats⟩ := c
    cases callee with
    | invoke r n => exact h.elim
    | builtin b =>
      cases b <;> simp only at h <;> try (exact h.elim)
      case append =>
        split at h
        · rename_i b x t t2 hargs hats
          obtain ⟨args⟩ := args
          obtain ⟨ats⟩ := ats
          simp only at hargs hats
          subst hargs; subst hats
          unfold happ at h
          split at h
          · rename_i e he
            split at h
            · rename_i sz by_ z hnn hb hz
              rw [hite_eq] at h
              split at h
              rotate_left
              · exact h.elim
              rename_i hcc
              rw [Bool.and_eq_true, beq_iff_eq] at hcc
              obtain ⟨hzs, hsrc⟩ := hcc
              obtain ⟨d2, ht2, hd2⟩ := srcTy_ok hsrc
              exact did (hAppend_ok (ty := type) he hnn hb hz hzs ht2 hd2 h hR (hE.eval b) (hE.eval x)) (by simp [execOp, resolve, invoke, builtin])
            · exact h.elim
          · exact h.elim
        · exact h.elim
      case delete =>
        split at h
        · rename_i b x t t2 hargs hats
          obtain ⟨args⟩ := args
          obtain ⟨ats⟩ := ats
          simp only at hargs hats
          subst hargs; subst hats
          split at h
          · rename_i kt et ht
            obtain ⟨w', s', h1, h2, h3⟩ := hMapDel_ok (ty := type) ht h hR (hE.eval b) (hE.eval x) t2
            refine upon_ok hnd (cv := .tuple #[]) (w' := w') ?_ (hn m w' s' _ _ (M.le.refl m) h2 (.lit _) h3)
            have := run_val h1
            simpa [execOp, resolve, invoke, builtin] using this
          · exact h.elim
        · exact h.elim
      case clear =>
        split at h
        · rename_i x t hargs hats
          obtain ⟨args⟩ := args
          obtain ⟨ats⟩ := ats
          simp only at hargs hats
          subst hargs; subst hats
          split at h
          · rename_i e he
            split at h
            · rename_i z hz
              rw [hite_eq] at h
              split at h
              · rename_i hone
                obtain ⟨w', s', h1, h2, h3⟩ := hClear_ok (ty := type) he hz rfl hone h hR (hE.eval x)
                refine upon_ok hnd (cv := .tuple #[]) (w' := w') ?_ (hn m w' s' _ _ (M.le.refl m) h2 (.lit _) h3)
                have := run_val h1
                simpa [execOp, resolve, invoke, builtin] using this
              · exact h.elim
            · exact h.elim
          · exact h.elim
        · exact h.elim
    | value f =>
      simp only [hcall] at h
      split at h
      · rename_i k caps hf
        rw [hite_eq] at h
        split at h
        rotate_left
        · exact h.elim
        rename_i hp
        have hrf := hE.eval f
        rw [hf] at hrf
        generalize hcf : a.eval f = cf at hrf
        cases hrf with
        | func _ _ vs hs hr =>
        unfold plainFn at hp
        cases hfn : P.funcs[k]? with
        | none => rw [hfn] at hp; cases hp
        | some fn =>
          rw [hfn] at hp
          simp only [Bool.and_eq_true, bne_iff_ne, ne_eq] at hp
          obtain ⟨hb, hname⟩ := hp
          have hrun : (execOp a.eval { dst, op := .call ⟨.value f, args, ats⟩, type, pos, after, guard }).run P w = .ok (.enter k (args.map a.eval ++ vs)) w := by
            obtain ⟨c0, hbody⟩ := Option.isSome_iff_exists.1 hb
            simp [execOp, resolve, Deferred.ofValue, hcf, invoke, callFunc, hfn, hname, hbody]
          unfold Oper.wpIn
          refine ⟨fun _ _ => trivial, ?_⟩
          rw [Oper.semAt_eq _ _ _ hnd, hrun, Oper.uponIn_enter]
          refine ⟨fun h => (by cases h), fR_calls.2 ?_⟩
          refine (h m w (args.map a.eval ++ vs) hR (by simp [hs]) (fun j x hj => ?_)).mono ?_
          · by_cases hlt : j < args.size
            · rw [List.getElem?_append_left (by simpa using hlt)] at hj
              have := repArgs hE args.toList j x hj
              have e : (args.map a.eval ++ vs).getD j undef = (args.toList.map a.eval).getD j undef := by
                simp only [List.getD, Array.getD_eq_getD_getElem?]
                rw [Array.getElem?_append_left (by simpa using hlt)]
                simp
              rw [e]; exact this
            · rw [List.getElem?_append_right (by simpa using hlt)] at hj
              have := hr _ x hj
              have e : (args.map a.eval ++ vs).getD j undef = vs.getD (j - (args.toList.map (hev env)).length) undef := by
                simp only [Array.getD_eq_getD_getElem?]
                rw [Array.getElem?_append_right (by simpa using hlt)]
                simp
              rw [e]; exact this
          · rintro e w' ⟨cv, v, s', m', rfl, h1, h2, h3, h4⟩
            exact hn m' w' s' v cv h1 h2 h3 h4
      · rename_i id hf
        have hrf := hE.eval f
        rw [hf] at hrf
        generalize hcf : a.eval f = cf at hrf
        cases hrf with
        | yld _ l hl =>
        obtain ⟨fn, tmps, asg, body, hy, hrd⟩ := h m w (args.map a.eval) l hR hl (by simp) (fun j x hj => by
          have := repArgs hE args.toList j x hj
          simpa [List.getD, Array.getD_eq_getD_getElem?] using this)
        have hrun : (execOp a.eval { dst, op := .call ⟨.value f, args, ats⟩, type, pos, after, guard }).run P w = .ok (.round l.b fn tmps asg body) w := by
          rw [← hy]
          simp [execOp, resolve, Deferred.ofValue, hcf, invoke]
        unfold Oper.wpIn
        refine ⟨fun _ _ => trivial, ?_⟩
        rw [Oper.semAt_eq _ _ _ hnd, hrun, Oper.uponIn_round]
        refine ⟨fun h => (by cases h), fR_round (RoundIn.mono hrd ?_)⟩
        rintro e w' ⟨cv, v, s', m', rfl, h1, h2, h3, h4⟩
        exact hn m' w' s' v cv h1 h2 h3 h4
      · exact h.elim
end Go.Proofs.Ythfoanmokcepcaa.H
namespace Go.Proofs.Ythfoanmokcepcaa.H
open Go.RowKit Go.MapKept
set_option linter.unusedVariables false
set_option linter.unusedSimpArgs false
variable {P : Program} {m : M} {s : HS} {w : World} {ro : Option Nat} {nn : Nat}
def bindO (x : Option HV) (K : HV → Prop) : Prop :=
  match x with
  | some v => K v
  | none => False
def hcond (g : HV) (T F : Prop) : Prop :=
  match g with
  | .lit (.bool true) => T
  | .lit (.bool false) => F
  | _ => False
abbrev hbind (op : Op) (x : Option HV) (K : HV → Prop) : Prop :=
  match op with
  | .move _ => (match x with | some v => K v | none => False)
  | .assign _ => (match x with | some v => K v | none => False)
  | .pick _ _ _ => (match x with | some v => K v | none => False)
  | .build _ _ => (match x with | some v => K v | none => False)
  | .makeFunc _ _ _ => (match x with | some v => K v | none => False)
  | _ => bindO x K
theorem hbind_eq (op : Op) (x : Option HV) (K : HV → Prop) : hbind op x K = bindO x K := by cases op <;> rfl
def hdo (P : Program) (o : Oper) (env : List HV) (s : HS) (K : HV → HS → Prop) : Prop :=
  hite (isEff P o.op) (heff P o.op env s K) (hbind o.op (hval P o.op env s) fun v => K v s)
abbrev Known := List (Nat × Option Bool)
def dstOf (ops : Array Oper) (j : Nat) : Option Tmp := (ops[j]?).bind (·.dst)
def knownAt : Known → Nat → Option (Option Bool)
  | [], _ => none
  | (i, b) :: r, j => if i = j then some b else knownAt r j
def forget (ops : Array Oper) (d : Option Tmp) : Known → Known
  | [] => []
  | (i, b) :: r => if dstOf ops i = d then forget ops d r else (i, b) :: forget ops d r
def gval (ops : Array Oper) (env : List HV) (j : Nat) : HV :=
  match dstOf ops j with
  | some t => hev env (.tmp t)
  | none => .lit undef
/-- A guard is decided: it is known from here on. -/
def setB (ops : Array Oper) (env : List HV) (j : Nat) (b : Bool) : List HV := hput env (dstOf ops j) (.lit (.bool b))
/-- The list, laid out (so that what looks into it later finds it laid out). -/
abbrev normL {α : Type} : List α → (List α → Prop) → Prop
  | [], K => K []
  | x :: xs, K => normL xs fun ys => K (x :: ys)
theorem normL_eq {α : Type} : ∀ (l : List α) (K : List α → Prop), normL l K = K l
  | [], K => rfl
  | x :: xs, K => normL_eq xs _
def hops (P : Program) (ops : Array Oper) (K : List HV → HS → Prop) : List Nat → Known → List HV → HS → Prop
  | [], _, env, s => K env s
  | i :: rest, kn, env, s =>
    normL env fun env =>
    match ops[i]? with
    | none => hops P ops K rest kn env s
    | some o =>
      match o.guard with
      | none => hdo P o env s fun v s' => hops P ops K rest (forget ops o.dst kn) (hput env o.dst v) s'
      | some (j, want) =>
        match knownAt kn j with
        | some b => hite (b = some want) (hdo P o env s fun v s' => hops P ops K rest (forget ops o.dst kn) (hput env o.dst v) s') (hops P ops K rest ((i, none) :: forget ops o.dst kn) (hput env o.dst (.lit undef)) s)
        | none => hcond (gval ops env j)
            (hite (want = true) (hdo P o (setB ops env j true) s fun v s' => hops P ops K rest (forget ops o.dst ((j, some true) :: kn)) (hput (setB ops env j true) o.dst v) s') (hops P ops K rest ((i, none) :: forget ops o.dst ((j, some true) :: kn)) (hput (setB ops env j true) o.dst (.lit undef)) s))
            (hite (want = false) (hdo P o (setB ops env j false) s fun v s' => hops P ops K rest (forget ops o.dst ((j, some false) :: kn)) (hput (setB ops env j false) o.dst v) s') (hops P ops K rest ((i, none) :: forget ops o.dst ((j, some false) :: kn)) (hput (setB ops env j false) o.dst (.lit undef)) s))
def Fr (mods : List Nat) (a a' : Act) : Prop := a'.tmps.size = a.tmps.size ∧ ∀ t, t ∉ mods → a'.tmps.getD t undef = a.tmps.getD t undef
theorem Fr.refl (mods : List Nat) (a : Act) : Fr mods a a := ⟨rfl, fun _ _ => rfl⟩
theorem Fr.trans {mods : List Nat} {a b c : Act} (h : Fr mods a b) (k : Fr mods b c) : Fr mods a c := ⟨k.1.trans h.1, fun t ht => (k.2 t ht).trans (h.2 t ht)⟩
theorem Fr.mono {mods mods' : List Nat} {a b : Act} (h : Fr mods a b) (hm : ∀ t ∈ mods, t ∈ mods') : Fr mods' a b := ⟨h.1, fun t ht => h.2 t fun h' => ht (hm t h')⟩
theorem Fr.put {mods : List Nat} {a : Act} {d : Option Tmp} (hd : ∀ t, d = some t → t ∈ mods) (v : Value) : Fr mods a (a.put d v) := by
  cases d with
  | none => exact Fr.refl _ _
  | some d =>
    refine ⟨by simp [Act.put], fun t ht => ?_⟩
    have hne : d ≠ t := fun e => ht (e ▸ hd d rfl)
    simp [Act.put, Array.getElem?_setIfInBounds_ne hne]
def opsDsts (ops : Array Oper) : List Nat := ops.toList.filterMap (·.dst)
theorem dst_mem {ops : Array Oper} {i : Nat} {o : Oper} (h : ops[i]? = some o) : ∀ t, o.dst = some t → t ∈ opsDsts ops := by
  intro t ht
  exact List.mem_filterMap.2 ⟨o, by rw [← Array.getElem?_toList] at h; exact List.mem_of_getElem? h, ht⟩
def KnownOK (ops : Array Oper) (a : Act) (kn : Known) : Prop := ∀ j b, knownAt kn j = some b → yielded ops a.tmps j = b
theorem yielded_put {ops : Array Oper} {a : Act} {d : Option Tmp} {v : Value} {j : Nat} (h : dstOf ops j ≠ d) : yielded ops (a.put d v).tmps j = yielded ops a.tmps j := by
  cases d with
  | none => rfl
  | some d =>
    unfold yielded
    unfold dstOf at h
    cases hj : (ops[j]?).bind (·.dst) with
    | none => rfl
    | some t =>
      rw [hj] at h
      have hne : d ≠ t := fun e => h (by rw [e])
      simp [Act.put, Array.getElem?_setIfInBounds_ne hne]
theorem KnownOK.forget {ops : Array Oper} {a : Act} {v : Value} : ∀ {kn : Known} {d : Option Tmp}, KnownOK ops a kn → KnownOK ops (a.put d v) (forget ops d kn) := by
  intro kn d h j b hj
  have key : ∀ kn : Known, knownAt (H.forget ops d kn) j = some b → dstOf ops j ≠ d ∧ knownAt kn j = some b := by
    intro kn
    induction kn with
    | nil => intro h; cases h
    | cons p r ih =>
      obtain ⟨i, c⟩ := p
      intro h
      simp only [H.forget] at h
      split at h
      · rename_i hd
        obtain ⟨h1, h2⟩ := ih h
        refine ⟨h1, ?_⟩
        simp only [knownAt]
        rw [if_neg (fun (e : i = j) => h1 (by rw [← e]; exact hd))]
        exact h2
      · rename_i hd
        simp only [knownAt] at h ⊢
        split at h
        · rename_i e; subst e; exact ⟨hd, by rw [if_pos rfl]; exact h⟩
        · rename_i e; rw [if_neg e]; exact ih h
  obtain ⟨h1, h2⟩ := key kn hj
  rw [yielded_put h1]
  exact h j b h2
theorem KnownOK.cons {ops : Array Oper} {a : Act} {kn : Known} {j : Nat} {b : Option Bool} (h : KnownOK ops a kn) (hb : yielded ops a.tmps j = b) : KnownOK ops a ((j, b) :: kn) := by
  intro i c hc
  simp only [knownAt] at hc
  split at hc
  · rename_i e; subst e; cases hc; exact hb
  · exact h i c hc
theorem yielded_undef {ops : Array Oper} {a : Act} {i : Nat} {o : Oper} (ho : ops[i]? = some o) : yielded ops (a.put o.dst undef).tmps i = none := by
  unfold yielded
  rw [ho]
  simp only [Option.bind_some]
  cases hd : o.dst with
  | none => rfl
  | some d =>
    simp only [Option.bind_some, Act.put]
    cases h : (a.tmps.setIfInBounds d undef)[d]? with
    | none => rfl
    | some u =>
      have hlt := (Array.getElem?_eq_some_iff.1 h).1
      simp only [Array.size_setIfInBounds] at hlt
      rw [Array.getElem?_setIfInBounds_self_of_lt hlt] at h
      cases h; rfl
/-- What a guard's number yields. -/
theorem gval_ok {ops : Array Oper} {env : List HV} {a : Act} {j : Nat} (hE : EnvRep m env a) : (∀ b, gval ops env j = .lit (.bool b) → yielded ops a.tmps j = some b) ∧ (∀ vs, gval ops env j = .lit (.tuple vs) → yielded ops a.tmps j = none) := by
  unfold gval yielded
  unfold dstOf
  cases hj : (ops[j]?).bind (·.dst) with
  | none => exact ⟨fun b h => (by cases h), fun vs _ => rfl⟩
  | some t =>
    have hr := hE.eval (.tmp t)
    have hev' : a.eval (.tmp t) = a.tmps.getD t undef := rfl
    rw [hev'] at hr
    simp only [Option.bind_some]
    constructor
    · intro b hb
      have := lit_or hr hb
      simp only [Array.getD_eq_getD_getElem?] at this
      cases ht : a.tmps[t]? with
      | none => rw [ht] at this; simp [undef] at this
      | some u => rw [ht] at this; simp only [Option.getD_some] at this; subst this; rfl
    · intro vs hb
      have := lit_or hr hb
      simp only [Array.getD_eq_getD_getElem?] at this
      cases ht : a.tmps[t]? with
      | none => rfl
      | some u => rw [ht] at this; simp only [Option.getD_some] at this; subst this; rfl
theorem hdo_ok {o : Oper} {env : List HV} {a : Act} {K : HV → HS → Prop} (h : hdo P o env s K) (hR : Rel m s w) (hE : EnvRep m env a) {next : Act → World → Prop} {Q : Exit → Act → World → Prop}
    (hn : ∀ m' w' s' v cv, M.le m m' → Rel m' s' w' → Rep m' v cv → K v s' → next (a.put o.dst cv) w') : o.wpIn (fR ro) nn P a w next Q := by
  unfold hdo at h
  simp only [hite_eq, hbind_eq] at h
  split at h
  · exact heff_ok h hR hE hn
  · unfold bindO at h
    split at h
    rotate_left
    · exact h.elim
    rename_i v hv
    have hk := h
    obtain ⟨cv, h1, h2⟩ := hval_ok hv hR hE
    exact upon_ok (fun c hc => by rw [hc] at hv; cases hv) h1 (hn m w s v cv (M.le.refl m) hR h2 hk)
theorem setSame {env : List HV} {a : Act} {t : Nat} {b : Bool} (hE : EnvRep m env a) (hb : hev env (.tmp t) = .lit (.bool b)) : EnvRep m (env.set t (.lit (.bool b))) a := by
  refine ⟨by simp [hE.size], fun k x hk => ?_, hE.defers⟩
  by_cases hkt : t = k
  · subst hkt
    have hlt : t < env.length := by have := (List.getElem?_eq_some_iff.1 hk).1; simpa using this
    rw [List.getElem?_set_self hlt] at hk
    cases hk
    have := hE.eval (.tmp t)
    rw [hb] at this
    exact this
  · rw [List.getElem?_set_ne hkt] at hk
    exact hE.rep k x hk
theorem setB_rep {ops : Array Oper} {env : List HV} {a : Act} {j : Nat} {b : Bool} (hE : EnvRep m env a) (hb : gval ops env j = .lit (.bool b)) : EnvRep m (setB ops env j b) a := by
  unfold setB
  unfold gval at hb
  cases hd : dstOf ops j with
  | none => exact hE
  | some t =>
    rw [hd] at hb
    exact setSame hE hb
theorem hops_ok {ops : Array Oper} {K : List HV → HS → Prop} {Q : Exit → Act → World → Prop} : ∀ (is : List Nat) (kn : Known) (env : List HV) (s : HS) (m : M) (w : World) (a : Act),
    hops P ops K is kn env s → Rel m s w → EnvRep m env a → KnownOK ops a kn →
    (∀ m' env' s' a' w', M.le m m' → Rel m' s' w' → EnvRep m' env' a' → Fr (opsDsts ops) a a' → K env' s' → Q .normal a' w') → wpOpsIn (fR ro) nn P ops Q is a w
  | [], kn, env, s, m, w, a, h, hR, hE, hk, hq => hq m env s a w (M.le.refl m) hR hE (Fr.refl _ _) h
  | i :: rest, kn, env, s, m, w, a, h, hR, hE, hk, hq => by
    rw [wpOpsIn_cons]
    unfold wpOpIn
    unfold hops at h
    simp only [normL_eq, hite_eq] at h
    cases ho : ops[i]? with
    | none =>
      simp only [ho] at h ⊢
      exact hops_ok rest kn env s m w a h hR hE hk hq
    | some o =>
      simp only [ho] at h ⊢
      have run : ∀ env kn', EnvRep m env a → KnownOK ops a kn' → hdo P o env s (fun v s' => hops P ops K rest (forget ops o.dst kn') (hput env o.dst v) s') → Region.wanted o (yielded ops a.tmps) = true →
          (if Region.wanted o (yielded ops a.tmps) then o.wpIn (fR ro) nn P a w (wpOpsIn (fR ro) nn P ops Q rest) Q else (∀ f, o.about P w a.eval = some f → (fR ro).fn f) ∧ wpOpsIn (fR ro) nn P ops Q rest (a.put o.dst undef) w) := by
        intro env kn' hE hk' h' hw
        rw [if_pos hw]
        refine hdo_ok h' hR hE fun m' w' s' v cv h1 h2 h3 h4 => ?_
        refine hops_ok rest _ _ s' m' w' _ h4 h2 ((hE.mono h1).put h3 o.dst) hk'.forget fun m'' env'' s'' a'' w'' g1 g2 g3 g4 g5 => ?_
        exact hq m'' env'' s'' a'' w'' (h1.trans g1) g2 g3 ((Fr.put (dst_mem ho) cv).trans g4) g5
      have skip : ∀ env kn', EnvRep m env a → KnownOK ops a kn' → hops P ops K rest ((i, none) :: forget ops o.dst kn') (hput env o.dst (.lit undef)) s → Region.wanted o (yielded ops a.tmps) = false →
          (if Region.wanted o (yielded ops a.tmps) then o.wpIn (fR ro) nn P a w (wpOpsIn (fR ro) nn P ops Q rest) Q else (∀ f, o.about P w a.eval = some f → (fR ro).fn f) ∧ wpOpsIn (fR ro) nn P ops Q rest (a.put o.dst undef) w) := by
        intro env kn' hE hk' h' hw
        rw [if_neg (by rw [hw]; exact Bool.false_ne_true)]
        refine ⟨fun _ _ => trivial, ?_⟩
        refine hops_ok rest _ _ s m w _ h' hR (hE.put (.lit undef) o.dst) (hk'.forget.cons (yielded_undef ho)) fun m'' env'' s'' a'' w'' g1 g2 g3 g4 g5 => ?_
        exact hq m'' env'' s'' a'' w'' g1 g2 g3 ((Fr.put (dst_mem ho) undef).trans g4) g5
      cases hg : o.guard with
      | none =>
        simp only [hg] at h
        exact run env kn hE hk h (by simp [Region.wanted, hg])
      | some p =>
        obtain ⟨j, want⟩ := p
        simp only [hg] at h
        have hwant : ∀ b, yielded ops a.tmps j = b → Region.wanted o (yielded ops a.tmps) = (b == some want) := fun b hb => by simp only [Region.wanted, hg, hb]
        cases hka : knownAt kn j with
        | some b =>
          simp only [hka] at h
          have hy := hk j b hka
          split at h
          · rename_i hb; exact run env kn hE hk h (by rw [hwant _ hy, hb]; simp)
          · rename_i hb; exact skip env kn hE hk h (by rw [hwant _ hy]; simpa using hb)
        | none =>
          simp only [hka] at h
          obtain ⟨hgv1, hgv2⟩ := gval_ok (ops := ops) (j := j) hE
          unfold hcond at h
          split at h
          · rename_i hb
            have hy := hgv1 true hb
            have hE' := setB_rep hE hb
            split at h
            · rename_i hwt; exact run _ _ hE' (hk.cons hy) h (by rw [hwant _ hy, hwt]; rfl)
            · rename_i hwt; exact skip _ _ hE' (hk.cons hy) h (by rw [hwant _ hy]; cases want <;> simp_all)
          · rename_i hb
            have hy := hgv1 false hb
            have hE' := setB_rep hE hb
            split at h
            · rename_i hwt; exact run _ _ hE' (hk.cons hy) h (by rw [hwant _ hy, hwt]; rfl)
            · rename_i hwt; exact skip _ _ hE' (hk.cons hy) h (by rw [hwant _ hy]; cases want <;> simp_all)
          · exact h.elim
end Go.Proofs.Ythfoanmokcepcaa.H
namespace Go.Proofs.Ythfoanmokcepcaa.H
open Go.RowKit Go.MapKept
set_option linter.unusedVariables false
set_option linter.unusedSimpArgs false
variable {P : Program} {m : M} {s : HS} {w : World}
/-- What must not be taken early: what makes or writes, and what is put into a variable. -/
def isLate (P : Program) (op : Op) : Bool := isEff P op || (match op with | .assign _ => true | _ => false)
/-- What reads memory. -/
def isRead (op : Op) : Bool :=
  match op with
  | .load _ _ | .lookup _ _ _ _ | .convert _ _ _ | .entry _ => true
  | .slice _ _ (some _) (some _) none => true
  | .call { callee := .builtin .len, .. } => true
  | _ => false
def waits (ops : Array Oper) (k : Nat) : List Nat :=
  match ops[k]? with
  | some o => (o.after.toList.filter fun e => Region.binds .any e).map (·.on)
  | none => []
def readyD (ops : Array Oper) (L : List Nat) : List Nat := (List.range ops.size).filter fun k => !L.contains k && (waits ops k).all L.contains
def nextEarly (P : Program) (ops : Array Oper) (L : List Nat) : Option Nat := (readyD ops L).find? fun k => match ops[k]? with | some o => !isLate P o.op | none => false
/-- What the listed wait for, by chains. -/
def anc (ops : Array Oper) : Nat → List Nat → List Nat → List Nat
  | 0, _, seen => seen
  | _ + 1, [], seen => seen
  | fuel + 1, k :: todo, seen => anc ops fuel (((waits ops k).filter fun j => !seen.contains j) ++ todo) (((waits ops k).filter fun j => !seen.contains j) ++ seen)
/-- k waits for i, by a chain. -/
def reachD (ops : Array Oper) (i : Nat) (fuel k : Nat) : Bool := (anc ops (fuel + 1) [k] []).contains i
def looks (ops : Array Oper) (k : Nat) : List Nat := match ops[k]? with | some o => o.looksAt ops | none => []
/-- i, that may come later than it was taken, bears with k. -/
def bears (ops : Array Oper) (i k : Nat) : Bool :=
  (match dstOf ops k with | some d => !(looks ops i).contains d && dstOf ops i != some d | none => true) &&
  (match dstOf ops i with | some d => !(looks ops k).contains d || reachD ops i ops.size k | none => true)
def reads (ops : Array Oper) (i k : Nat) : Bool :=
  match dstOf ops i with | some d => !(looks ops k).contains d || reachD ops i ops.size k | none => true
def keepW (ops : Array Oper) (W : List Nat) (k : Nat) : List Nat := W.filter fun i => !reachD ops i ops.size k
/-- What was read early is still so; then R. -/
abbrev watchOK (P : Program) (ops : Array Oper) (env : List HV) (s s' : HS) : List Nat → Prop → Prop
  | [], R => R
  | i :: r, R => match ops[i]? with | some o => hite (isRead o.op) (hval P o.op env s' = hval P o.op env s ∧ watchOK P ops env s s' r R) (watchOK P ops env s s' r R) | none => watchOK P ops env s s' r R
def hstep (P : Program) (ops : Array Oper) (k : Nat) (o : Oper) (kn : Known) (env : List HV) (s : HS) (K : Known → List HV → HS → Prop) : Prop :=
  match o.guard with
  | none => hdo P o env s fun v s' => K (forget ops o.dst kn) (hput env o.dst v) s'
  | some (j, want) =>
    match knownAt kn j with
    | some b => hite (b = some want) (hdo P o env s fun v s' => K (forget ops o.dst kn) (hput env o.dst v) s') (K ((k, none) :: forget ops o.dst kn) (hput env o.dst (.lit undef)) s)
    | none => hcond (gval ops env j)
        (hite (want = true) (hdo P o (setB ops env j true) s fun v s' => K (forget ops o.dst ((j, some true) :: kn)) (hput (setB ops env j true) o.dst v) s') (K ((k, none) :: forget ops o.dst ((j, some true) :: kn)) (hput (setB ops env j true) o.dst (.lit undef)) s))
        (hite (want = false) (hdo P o (setB ops env j false) s fun v s' => K (forget ops o.dst ((j, some false) :: kn)) (hput (setB ops env j false) o.dst v) s') (K ((k, none) :: forget ops o.dst ((j, some false) :: kn)) (hput (setB ops env j false) o.dst (.lit undef)) s))
abbrev hall : List Nat → (Nat → Prop) → Prop
  | [], _ => True
  | [k], F => F k
  | k :: r, F => F k ∧ hall r F
def selfOK (ops : Array Oper) (k : Nat) : Bool := match dstOf ops k with | some d => !(looks ops k).contains d | none => true
def hdr (P : Program) (ops : Array Oper) (K : List HV → HS → Prop) : Nat → List Nat → List Nat → Known → List HV → HS → Prop
  | 0, _, _, _, _, _ => False
  | fuel + 1, L, W, kn, env, s =>
    normL W fun W => normL kn fun kn => normL env fun env =>
    match nextEarly P ops L with
    | some k => (match ops[k]? with
      | some o => hite (selfOK ops k && W.all fun i => bears ops i k) (hstep P ops k o kn env s fun kn' env' s' => hdr P ops K fuel (k :: L) (k :: W) kn' env' s') False
      | none => False)
    | none => (match readyD ops L with
      | [] => K env s
      | l => hall l fun k => (match ops[k]? with
        | some o => hite (W.all (fun i => reads ops i k) && (keepW ops W k).all fun i => bears ops i k) (
            hstep P ops k o kn env s fun kn' env' s' => watchOK P ops env s s' (keepW ops W k) (hdr P ops K fuel (k :: L) (keepW ops W k) kn' env' s')) False
        | none => False))
def hdraw (P : Program) (ops : Array Oper) (K : List HV → HS → Prop) (env : List HV) (s : HS) : Prop :=
  hite (P.follows .mixedOrders || !Region.departs ops) (hdr P ops K (ops.size + 1) [] [] [] env s) False
end Go.Proofs.Ythfoanmokcepcaa.H
namespace Go.Proofs.Ythfoanmokcepcaa.H
open Go.RowKit Go.MapKept
set_option linter.unusedVariables false
set_option linter.unusedSimpArgs false
variable {P : Program} {m : M} {s : HS} {w : World} {ops : Array Oper}
theorem parts_congr {env env' : List HV} (l : List (Nat × Operand)) (h : ∀ x ∈ l.map (·.2), hev env x = hev env' x) : (l.map fun p => (p.1, hev env p.2)) = l.map fun p => (p.1, hev env' p.2) :=
  List.map_congr_left fun p hp => by rw [h p.2 (List.mem_map.2 ⟨p, hp, rfl⟩)]
theorem args_congr {env env' : List HV} (l : List Operand) (h : ∀ x ∈ l, hev env x = hev env' x) : l.map (hev env) = l.map (hev env') := List.map_congr_left h
theorem opt_congr {env env' : List HV} (l : Option Operand) (h : ∀ x ∈ l.toArray, hev env x = hev env' x) : l.map (hev env) = l.map (hev env') := by
  cases l with
  | none => rfl
  | some x => simp only [Option.map_some, h x (by simp)]
theorem hval_congr {env env' : List HV} (op : Op) (h : ∀ x ∈ op.operands, hev env x = hev env' x) : hval P op env s = hval P op env' s := by
  cases op <;> simp only [Op.operands] at h <;> simp only [hval]
  case build t ps => rw [parts_congr ps.toList fun x hx => h x (by simpa using hx)]
  case makeFunc fn first caps => rw [args_congr caps.toList fun x hx => h x (by simp at hx ⊢; exact .inr hx)]
  case slice t x lo hi mx =>
    have hl : ∀ y, lo = some y → hev env y = hev env' y := fun y hy => h y (by subst hy; simp)
    have hh : ∀ y, hi = some y → hev env y = hev env' y := fun y hy => h y (by subst hy; simp)
    have hx := h x (by simp)
    have h1 := opt_congr (env := env) (env' := env') lo fun y hy => h y (by simp at hy ⊢; exact .inr (.inl hy))
    have h2 := opt_congr (env := env) (env' := env') hi fun y hy => h y (by simp at hy ⊢; exact .inr (.inr (.inl hy)))
    have h3 := opt_congr (env := env) (env' := env') mx fun y hy => h y (by simp at hy ⊢; exact .inr (.inr (.inr hy)))
    rw [hx, h1, h2, h3]
    cases lo with
    | none => rfl
    | some l =>
      cases hi with
      | none => rfl
      | some r =>
        cases mx with
        | some _ => rfl
        | none => simp only [hl l rfl, hh r rfl]
  case call c =>
    obtain ⟨callee, args, ats⟩ := c
    cases callee <;> simp only
    rename_i b
    rw [args_congr args.toList fun x hx => h x (by simp [Call.operands]; simpa using hx)]
  all_goals (first | rfl | (simp at h; simp only [h]; done) | (simp_all; done))
theorem heff_congr {env env' : List HV} {K : HV → HS → Prop} (op : Op) (h : ∀ x ∈ op.operands, hev env x = hev env' x) : heff P op env s K = heff P op env' s K := by
  cases op <;> simp only [Op.operands] at h <;> simp only [heff]
  case buildSlice t n ps => rw [parts_congr ps.toList fun x hx => h x (by simpa using hx)]
  case makeMap t r => rw [opt_congr r h]
  case call c =>
    obtain ⟨callee, args, ats⟩ := c
    obtain ⟨args⟩ := args
    cases callee with
    | invoke r n => rfl
    | value f =>
      have h1 := h f (by simp [Call.operands])
      have h2 := args_congr args fun x hx => h x (by simp [Call.operands, hx])
      simp only [h1, h2]
    | builtin b =>
      have h2 : ∀ x ∈ args, hev env x = hev env' x := fun x hx => h x (by simp [Call.operands, hx])
      cases b <;> try simp only
      all_goals
        cases args with
        | nil => rfl
        | cons x r =>
          cases r with
          | nil =>
            have e1 := h2 x (by simp)
            obtain ⟨ats⟩ := ats
            rcases ats with _ | ⟨t1, _ | ⟨t2, _ | _⟩⟩ <;> first | rfl | (simp only [e1]; done)
          | cons y r =>
            cases r with
            | nil =>
              have e1 := h2 x (by simp)
              have e2 := h2 y (by simp)
              obtain ⟨ats⟩ := ats
              rcases ats with _ | ⟨t1, _ | ⟨t2, _ | _⟩⟩ <;> first | rfl | (simp only [e1, e2]; done)
            | cons _ _ => rfl
  all_goals (first | rfl | (simp at h; simp only [h]; done) | (simp_all; done))
theorem hdo_congr {env env' : List HV} {K : HV → HS → Prop} (o : Oper) (h : ∀ x ∈ o.op.operands, hev env x = hev env' x) : hdo P o env s K = hdo P o env' s K := by
  unfold hdo
  rw [hval_congr o.op h, heff_congr o.op h]
theorem hval_pure {env : List HV} {s' : HS} {op : Op} (h : isRead op = false) : hval P op env s = hval P op env s' := by
  cases op <;> simp only [hval] <;> first | rfl | (simp [isRead] at h; done) | skip
  case slice t x lo hi mx =>
    cases lo with
    | none => rfl
    | some l =>
      cases hi with
      | none => rfl
      | some r =>
        cases mx with
        | some _ => rfl
        | none => simp [isRead] at h
  rename_i c
  obtain ⟨callee, args, ats⟩ := c
  cases callee <;> simp only
  rename_i b
  cases b <;> first | rfl | (simp [isRead] at h; done) | (generalize args.toList.map (hev env) = l; cases l <;> rfl)
theorem mem_waits {k i : Nat} : i ∈ waits ops k ↔ ∃ o, ops[k]? = some o ∧ ∃ e ∈ o.after, Region.binds .any e = true ∧ e.on = i := by
  unfold waits
  cases ho : ops[k]? with
  | none => simp
  | some o => simp [and_assoc]
theorem mem_readyD {L : List Nat} {k : Nat} : k ∈ readyD ops L ↔ k < ops.size ∧ k ∉ L ∧ ∀ i ∈ waits ops k, i ∈ L := by
  unfold readyD
  simp [List.mem_filter, List.mem_range]
/-- Listed in the model's way. -/
def Lst (C : Array Bool) (j : Nat) : Prop := C.getD j false = true
theorem ready_iff {C : Array Bool} (hs : C.size = ops.size) {k : Nat} : k ∈ Region.ready .any ops C ↔ k < ops.size ∧ ¬ Lst C k ∧ ∀ i ∈ waits ops k, Lst C i := by
  rw [mem_ready]
  constructor
  · rintro ⟨h1, o, h2, h3⟩
    have hlt := (Array.getElem?_eq_some_iff.1 h2).1
    refine ⟨hlt, ?_, fun i hi => ?_⟩
    · unfold Lst
      simp only [Array.getD_eq_getD_getElem?] at h1 ⊢
      rw [Array.getElem?_eq_getElem (by omega)] at h1 ⊢
      simp only [Option.getD_some] at h1 ⊢
      rw [h1]; exact Bool.false_ne_true
    · obtain ⟨o', g1, e, g2, g3, rfl⟩ := mem_waits.1 hi
      rw [h2] at g1; cases g1
      exact h3 e g2 g3
  · rintro ⟨hlt, h1, h2⟩
    refine ⟨?_, ops[k], by simp [hlt], fun e he hb => h2 e.on (mem_waits.2 ⟨ops[k], by simp [hlt], e, he, hb, rfl⟩)⟩
    unfold Lst at h1
    simp only [Array.getD_eq_getD_getElem?] at h1 ⊢
    rw [Array.getElem?_eq_getElem (by omega)] at h1 ⊢
    simp only [Option.getD_some] at h1 ⊢
    simpa using h1
theorem lst_set {C : Array Bool} {j i : Nat} (hj : j < C.size) : Lst (C.setIfInBounds j true) i ↔ i = j ∨ Lst C i := by
  unfold Lst
  by_cases h : j = i
  · subst h; simp [hj]
  · rw [getD_set_ne false h]
    constructor
    · exact .inr
    · rintro (h' | h')
      · exact absurd h'.symm h
      · exact h'
/-- What waits, by a chain, for what is not listed, is not listed. -/
theorem anc_lst {C : Array Bool} (hc : ∀ k, Lst C k → ∀ i ∈ waits ops k, Lst C i) : ∀ (fuel : Nat) (todo seen : List Nat), (∀ k ∈ todo, ∀ j ∈ waits ops k, Lst C j) → (∀ k ∈ seen, Lst C k) → ∀ i ∈ anc ops fuel todo seen, Lst C i
  | 0, todo, seen, _, hs, i, hi => hs i hi
  | _ + 1, [], seen, _, hs, i, hi => hs i hi
  | fuel + 1, k :: todo, seen, ht, hs, i, hi => by
    have hk := ht k List.mem_cons_self
    refine anc_lst hc fuel _ _ ?_ ?_ i hi
    · intro x hx j hj
      rcases List.mem_append.1 hx with h | h
      · exact hc x (hk x (List.mem_filter.1 h).1) j hj
      · exact ht x (List.mem_cons_of_mem _ h) j hj
    · intro x hx
      rcases List.mem_append.1 hx with h | h
      · exact hk x (List.mem_filter.1 h).1
      · exact hs x h
theorem reach_lst {C : Array Bool} (hc : ∀ k, Lst C k → ∀ i ∈ waits ops k, Lst C i) {i : Nat} (fuel k : Nat) (h : reachD ops i fuel k = true) (hk : ∀ j ∈ waits ops k, Lst C j) : Lst C i := by
  unfold reachD at h
  exact anc_lst hc _ [k] [] (fun x hx => by simp at hx; subst hx; exact hk) (fun x hx => by simp at hx) i (by simpa using h)
def Ord (ops : Array Oper) : List Nat → Prop
  | [] => True
  | k :: L => k < ops.size ∧ k ∉ L ∧ (∀ i ∈ waits ops k, i ∈ L) ∧ Ord ops L
theorem all_listed {C : Array Bool} (hs : C.size = ops.size) (hr : Region.ready .any ops C = []) : ∀ L, Ord ops L → ∀ j ∈ L, Lst C j
  | [], _, j, hj => by simp at hj
  | k :: L, h, j, hj => by
    have ih := all_listed hs hr L h.2.2.2
    rcases List.mem_cons.1 hj with rfl | hj
    · by_cases hl : Lst C j
      · exact hl
      · have : j ∈ Region.ready .any ops C := (ready_iff hs).2 ⟨h.1, hl, fun i hi => ih i (h.2.2.1 i hi)⟩
        rw [hr] at this; cases this
    · exact ih j hj
def gIs (ops : Array Oper) (env : List HV) (j : Nat) : Option Bool → Prop
  | some b => gval ops env j = .lit (.bool b)
  | none => ∃ vs, gval ops env j = .lit (.tuple vs)
def KnownH (ops : Array Oper) (env : List HV) (kn : Known) : Prop := ∀ j b, knownAt kn j = some b → gIs ops env j b
theorem gval_put {env : List HV} {d : Option Tmp} {v : HV} {j : Nat} (h : dstOf ops j ≠ d) : gval ops (hput env d v) j = gval ops env j := by
  unfold gval
  cases hj : dstOf ops j with
  | none => rfl
  | some t =>
    cases d with
    | none => rfl
    | some d =>
      have hne : d ≠ t := fun e => h (by rw [hj, e])
      simp only [hput, hev, List.getD]
      rw [List.getElem?_set_ne hne]
theorem known_forget {kn : Known} {d : Option Tmp} {j : Nat} {b : Option Bool} : knownAt (forget ops d kn) j = some b → dstOf ops j ≠ d ∧ knownAt kn j = some b := by
  induction kn with
  | nil => intro h; cases h
  | cons p r ih =>
    obtain ⟨i, c⟩ := p
    intro h
    simp only [H.forget] at h
    split at h
    · rename_i hd
      obtain ⟨h1, h2⟩ := ih h
      refine ⟨h1, ?_⟩
      simp only [knownAt]
      rw [if_neg (fun (e : i = j) => h1 (by rw [← e]; exact hd))]
      exact h2
    · rename_i hd
      simp only [knownAt] at h ⊢
      split at h
      · rename_i e; subst e; exact ⟨hd, by rw [if_pos rfl]; exact h⟩
      · rename_i e; rw [if_neg e]; exact ih h
theorem KnownH.forget {env : List HV} {kn : Known} (h : KnownH ops env kn) (d : Option Tmp) (v : HV) : KnownH ops (hput env d v) (forget ops d kn) := by
  intro j b hj
  obtain ⟨h1, h2⟩ := known_forget hj
  have h3 := h j b h2
  cases b with
  | some b => exact (gval_put h1).trans h3
  | none => obtain ⟨vs, h4⟩ := h3; exact ⟨vs, (gval_put h1).trans h4⟩
theorem KnownH.cons {env : List HV} {kn : Known} {j : Nat} {b : Option Bool} (h : KnownH ops env kn) (hb : gIs ops env j b) : KnownH ops env ((j, b) :: kn) := by
  intro i c hc
  simp only [knownAt] at hc
  split at hc
  · rename_i e; subst e; cases hc; exact hb
  · exact h i c hc
/-- Whether an operation is wanted, by what is known. -/
def WantH (ops : Array Oper) (env : List HV) (o : Oper) (b : Bool) : Prop :=
  match o.guard with
  | none => b = true
  | some (j, want) => if b then gIs ops env j (some want) else (gIs ops env j (some (!want)) ∨ gIs ops env j none)
theorem gIs_undef {env : List HV} {i : Nat} {o : Oper} (ho : ops[i]? = some o) : gIs ops (hput env o.dst (.lit undef)) i none := by
  refine ⟨#[], ?_⟩
  unfold gval dstOf
  rw [ho]
  simp only [Option.bind_some]
  cases hd : o.dst with
  | none => rfl
  | some d =>
    simp only [hput, hev, List.getD]
    by_cases hlt : d < env.length
    · rw [List.getElem?_set_self hlt]; rfl
    · rw [List.getElem?_eq_none (by simpa using hlt)]; rfl
theorem set_same {l : List HV} {t : Nat} {v : HV} (h : l.getD t (.lit undef) = v) (hlt : t < l.length) : l.set t v = l := by
  apply List.ext_getElem?
  intro k
  by_cases hk : t = k
  · subst hk
    rw [List.getElem?_set_self hlt, ← h]
    simp [List.getD, hlt]
  · rw [List.getElem?_set_ne hk]
/-- A guard that is so is said to be so: nothing changes. -/
theorem setB_same {env : List HV} {j : Nat} {b : Bool} (hb : gval ops env j = .lit (.bool b)) : setB ops env j b = env := by
  unfold setB
  unfold gval at hb
  cases hd : dstOf ops j with
  | none => rfl
  | some t =>
    rw [hd] at hb
    by_cases hlt : t < env.length
    · exact set_same hb hlt
    · have : env.getD t (.lit undef) = .lit undef := by simp [List.getD, List.getElem?_eq_none (Nat.le_of_not_lt hlt)]
      simp only [hev] at hb
      rw [this] at hb
      simp [undef] at hb
theorem hstep_cases {k : Nat} {o : Oper} {kn : Known} {env : List HV} {K : Known → List HV → HS → Prop} (ho : ops[k]? = some o) (h : hstep P ops k o kn env s K) (hk : KnownH ops env kn) :
    (WantH ops env o true ∧ ∃ kn', KnownH ops env kn' ∧ hdo P o env s fun v s' => K (forget ops o.dst kn') (hput env o.dst v) s') ∨
    (WantH ops env o false ∧ ∃ kn', KnownH ops (hput env o.dst (.lit undef)) kn' ∧ K kn' (hput env o.dst (.lit undef)) s) := by
  have sk : ∀ kn', KnownH ops env kn' → KnownH ops (hput env o.dst (.lit undef)) ((k, none) :: forget ops o.dst kn') := fun kn' hk' => (hk'.forget o.dst _).cons (gIs_undef ho)
  unfold hstep at h
  simp only [hite_eq] at h
  unfold WantH
  cases hg : o.guard with
  | none => rw [hg] at h; exact .inl ⟨rfl, kn, hk, h⟩
  | some p =>
    obtain ⟨j, want⟩ := p
    rw [hg] at h
    simp only at h ⊢
    cases hka : knownAt kn j with
    | some b =>
      simp only [hka] at h
      have hy := hk j b hka
      split at h
      · rename_i hb; subst hb; exact .inl ⟨by simpa using hy, kn, hk, h⟩
      · rename_i hb
        refine .inr ⟨?_, _, sk kn hk, h⟩
        simp only [Bool.false_eq_true, if_false]
        cases b with
        | none => exact .inr hy
        | some b =>
          have : b = !want := by cases b <;> cases want <;> simp_all
          subst this; exact .inl hy
    | none =>
      simp only [hka] at h
      unfold hcond at h
      split at h
      · rename_i hb
        have hy : gIs ops env j (some true) := hb
        rw [setB_same hb] at h
        cases want
        · rw [if_neg (by decide)] at h
          exact .inr ⟨by simpa using Or.inl hy, _, sk _ (hk.cons hy), h⟩
        · rw [if_pos rfl] at h
          exact .inl ⟨by simpa using hy, _, hk.cons hy, h⟩
      · rename_i hb
        have hy : gIs ops env j (some false) := hb
        rw [setB_same hb] at h
        cases want
        · rw [if_pos rfl] at h
          exact .inl ⟨by simpa using hy, _, hk.cons hy, h⟩
        · rw [if_neg (by decide)] at h
          exact .inr ⟨by simpa using Or.inl hy, _, sk _ (hk.cons hy), h⟩
      · exact h.elim
/-- An early operation comes to v whenever it comes. -/
def EOK (P : Program) (ops : Array Oper) (o : Oper) (env : List HV) (s : HS) (v : HV) : Prop :=
  (WantH ops env o true ∧ hval P o.op env s = some v) ∨ (WantH ops env o false ∧ v = .lit undef)
theorem hev_put {env : List HV} {d : Option Tmp} {v : HV} {x : Operand} (h : ∀ t, d = some t → x ≠ .tmp t) : hev (hput env d v) x = hev env x := by
  cases d with
  | none => rfl
  | some d =>
    cases x with
    | tmp t =>
      have hne : d ≠ t := fun e => h d rfl (by rw [e])
      simp only [hput, hev, List.getD]
      rw [List.getElem?_set_ne hne]
    | _ => rfl
theorem mem_looks {k t : Nat} {o : Oper} (ho : ops[k]? = some o) : t ∈ looks ops k ↔ (.tmp t ∈ o.op.operands) ∨ ∃ g b, o.guard = some (g, b) ∧ dstOf ops g = some t := by
  unfold looks
  rw [ho]
  simp only [Oper.looksAt, List.mem_append, List.mem_filterMap]
  constructor
  · rintro (⟨x, hx, h⟩ | h)
    · cases x <;> simp at h
      subst h; exact .inl (by simpa using hx)
    · split at h
      · rename_i g b hg
        refine .inr ⟨g, b, hg, ?_⟩
        unfold dstOf
        cases hd : (ops[g]?).bind (·.dst) with
        | none => rw [hd] at h; simp at h
        | some q => rw [hd] at h; simp at h; rw [h]
      · simp at h
  · rintro (h | ⟨g, b, hg, hd⟩)
    · exact .inl ⟨.tmp t, by simpa using h, rfl⟩
    · refine .inr ?_
      rw [hg]
      simp only
      unfold dstOf at hd
      rw [hd]; simp
/-- Nothing that k looks at is changed: k's value is what it was. -/
theorem WantH.congr {env env' : List HV} {k : Nat} {o : Oper} (ho : ops[k]? = some o) (h : ∀ t ∈ looks ops k, hev env' (.tmp t) = hev env (.tmp t)) {b : Bool} (hw : WantH ops env o b) : WantH ops env' o b := by
  unfold WantH at *
  cases hg : o.guard with
  | none => rw [hg] at hw; exact hw
  | some p =>
    obtain ⟨j, want⟩ := p
    rw [hg] at hw
    have hgv : gval ops env' j = gval ops env j := by
      unfold gval
      cases hd : dstOf ops j with
      | none => rfl
      | some t => exact h t ((mem_looks ho).2 (.inr ⟨j, want, hg, hd⟩))
    have hgi : ∀ c, gIs ops env' j c = gIs ops env j c := fun c => by cases c <;> simp only [gIs, hgv]
    simp only [hgi]
    exact hw
theorem ops_congr {env env' : List HV} {k : Nat} {o : Oper} (ho : ops[k]? = some o) (h : ∀ t ∈ looks ops k, hev env' (.tmp t) = hev env (.tmp t)) : ∀ x ∈ o.op.operands, hev env' x = hev env x := by
  intro x hx
  cases x with
  | tmp t => exact h t ((mem_looks ho).2 (.inl hx))
  | _ => rfl
theorem EOK.congr {env env' : List HV} {k : Nat} {o : Oper} {v : HV} (ho : ops[k]? = some o) (h : ∀ t ∈ looks ops k, hev env' (.tmp t) = hev env (.tmp t)) (he : EOK P ops o env s v) : EOK P ops o env' s v := by
  rcases he with ⟨h1, h2⟩ | ⟨h1, h2⟩
  · exact .inl ⟨h1.congr ho h, by rw [hval_congr o.op (ops_congr ho h)]; exact h2⟩
  · exact .inr ⟨h1.congr ho h, h2⟩
end Go.Proofs.Ythfoanmokcepcaa.H
namespace Go.Proofs.Ythfoanmokcepcaa.H
open Go.RowKit Go.MapKept
set_option linter.unusedVariables false
set_option linter.unusedSimpArgs false
variable {P : Program} {m : M} {s : HS} {w : World} {ops : Array Oper} {ro : Option Nat} {nn : Nat}
def junkAll (env : List HV) (mods : List Nat) : List HV := mods.foldl (fun e t => e.set t .junk) env
theorem junk_at : ∀ (mods : List Nat) (env : List HV) (t : Nat) (x : HV), (junkAll env mods)[t]? = some x → x = .junk ∨ (t ∉ mods ∧ env[t]? = some x)
  | [], env, t, x, h => .inr ⟨by simp, h⟩
  | k :: mods, env, t, x, h => by
    rcases junk_at mods (env.set k .junk) t x h with h1 | ⟨h1, h2⟩
    · exact .inl h1
    · by_cases hkt : k = t
      · subst hkt
        have hlt : k < (env.set k .junk).length := (List.getElem?_eq_some_iff.1 h2).1
        rw [List.getElem?_set_self (by simpa using hlt)] at h2
        exact .inl (Option.some.inj h2).symm
      · rw [List.getElem?_set_ne hkt] at h2
        exact .inr ⟨by simp [h1]; exact fun e => hkt e.symm, h2⟩
theorem junk_len : ∀ (mods : List Nat) (env : List HV), (junkAll env mods).length = env.length
  | [], env => rfl
  | k :: mods, env => by
    show (junkAll (env.set k .junk) mods).length = _
    rw [junk_len mods]; simp
theorem junk_other : ∀ (mods : List Nat) (env : List HV) (t : Nat), t ∉ mods → (junkAll env mods)[t]? = env[t]?
  | [], env, t, _ => rfl
  | k :: mods, env, t, h => by
    show (junkAll (env.set k .junk) mods)[t]? = _
    rw [junk_other mods _ t (fun h' => h (.tail _ h'))]
    exact List.getElem?_set_ne (fun (e : k = t) => h (List.mem_cons.2 (.inl e.symm)))
structure Sim (P : Program) (ops : Array Oper) (L W : List Nat) (env : List HV) (s : HS) (C : Array Bool) (m : M) (w : World) (a : Act) : Prop where
  size : C.size = ops.size
  closed : ∀ k, Lst C k → ∀ i ∈ waits ops k, Lst C i
  sub : ∀ j, Lst C j → j ∈ L
  done : ∀ j ∈ L, j ∉ W → Lst C j
  ord : Ord ops L
  wsub : ∀ i ∈ W, i ∈ L
  rel : Rel m s w
  len : a.tmps.size = env.length
  defers : Marks m a.defers
  rep : ∀ t x, env[t]? = some x → (∀ i ∈ W, ¬ Lst C i → dstOf ops i ≠ some t) → Rep m x (a.tmps.getD t undef)
  early : ∀ i ∈ W, ¬ Lst C i → ∃ o v, ops[i]? = some o ∧ isEff P o.op = false ∧ EOK P ops o env s v ∧ ∀ d, o.dst = some d → d < env.length → env[d]? = some v
  pair : ∀ i ∈ W, ∀ k ∈ W, ∀ d, dstOf ops i = some d → (d ∈ looks ops k → i ≠ k ∧ reachD ops i ops.size k = true) ∧ (i ≠ k → dstOf ops k ≠ some d)
open Classical in
noncomputable def openD (ops : Array Oper) (W : List Nat) (C : Array Bool) : List Nat := (W.filter fun i => ¬ Lst C i).filterMap (dstOf ops)
theorem mem_openD {W : List Nat} {C : Array Bool} {t : Nat} : t ∈ openD ops W C ↔ ∃ i ∈ W, ¬ Lst C i ∧ dstOf ops i = some t := by
  unfold openD
  simp [List.mem_filterMap, List.mem_filter, and_assoc]
theorem Sim.junked {L W : List Nat} {env : List HV} {C : Array Bool} {a : Act} (h : Sim P ops L W env s C m w a) : EnvRep m (junkAll env (openD ops W C)) a := by
  refine ⟨by rw [junk_len, h.len], fun t x hx => ?_, h.defers⟩
  rcases junk_at _ _ _ _ hx with rfl | ⟨h1, h2⟩
  · exact .junk _
  · exact h.rep t x h2 (fun i hi hl hd => h1 (mem_openD.2 ⟨i, hi, hl, hd⟩))
theorem hev_junk {mods : List Nat} {env : List HV} {t : Nat} (h : t ∉ mods) : hev (junkAll env mods) (.tmp t) = hev env (.tmp t) := by
  simp only [hev, List.getD, junk_other mods env t h]
/-- What k looks at has been carried out. -/
theorem Sim.looked {L W : List Nat} {env : List HV} {C : Array Bool} {a : Act} (h : Sim P ops L W env s C m w a) {k : Nat} (hk : ∀ i ∈ waits ops k, Lst C i)
    (hr : ∀ i ∈ W, ¬ Lst C i → ∀ d, dstOf ops i = some d → d ∈ looks ops k → reachD ops i ops.size k = true) : ∀ t ∈ looks ops k, hev (junkAll env (openD ops W C)) (.tmp t) = hev env (.tmp t) := by
  intro t ht
  refine hev_junk fun hm => ?_
  obtain ⟨i, hi, hl, hd⟩ := mem_openD.1 hm
  exact hl (reach_lst h.closed ops.size k (hr i hi hl t hd ht) hk)
theorem wanted_of {env : List HV} {o : Oper} {a : Act} {b : Bool} (hE : EnvRep m env a) (h : WantH ops env o b) : Region.wanted o (yielded ops a.tmps) = b := by
  unfold WantH at h
  unfold Region.wanted
  cases hg : o.guard with
  | none => rw [hg] at h; exact h.symm
  | some p =>
    obtain ⟨j, want⟩ := p
    rw [hg] at h
    obtain ⟨g1, g2⟩ := gval_ok (ops := ops) (j := j) hE
    simp only at h ⊢
    cases b with
    | true =>
      simp only [if_true] at h
      rw [g1 want h]; simp
    | false =>
      simp only [Bool.false_eq_true, if_false] at h
      rcases h with h | ⟨vs, h⟩
      · rw [g1 _ h]; cases want <;> rfl
      · rw [g2 vs h]; rfl
theorem dst_of {k : Nat} {o : Oper} (ho : ops[k]? = some o) : dstOf ops k = o.dst := by unfold dstOf; rw [ho]; rfl
/-- An early operation comes up. -/
theorem step_early {L W : List Nat} {env : List HV} {C : Array Bool} {a : Act} {j : Nat} {next : Act → World → Prop} {Q : Exit → Act → World → Prop} (h : Sim P ops L W env s C m w a) (hj : j ∈ Region.ready .any ops C) (hjL : j ∈ L)
    (hn : ∀ cv, Sim P ops L W env s (C.setIfInBounds j true) m w (a.put (dstOf ops j) cv) → next (a.put (dstOf ops j) cv) w) : wpOpIn (fR ro) nn P ops Q j next a w := by
  obtain ⟨hlt, hjl, hjw⟩ := (ready_iff h.size).1 hj
  have hjW : j ∈ W := by
    by_cases hw : j ∈ W
    · exact hw
    · exact absurd (h.done j hjL hw) hjl
  obtain ⟨o, v, ho, hne, hok, hd⟩ := h.early j hjW hjl
  have hEJ := h.junked
  have hlook := h.looked (k := j) hjw (fun i hi hl d hdi hdl => ((h.pair i hi j hjW d hdi).1 hdl).2)
  have hokJ := hok.congr ho hlook
  have hdst := dst_of ho
  have hinv : ∀ cv, Rep m v cv → Sim P ops L W env s (C.setIfInBounds j true) m w (a.put (dstOf ops j) cv) := by
    intro cv hcv
    have hls : ∀ i, Lst (C.setIfInBounds j true) i ↔ i = j ∨ Lst C i := fun i => lst_set (by rw [h.size]; exact hlt)
    refine ⟨by simp [h.size], fun k hk i hi => ?_, fun k hk => ?_, fun k hk hw => (hls k).2 (.inr (h.done k hk hw)), h.ord, h.wsub, h.rel, by rw [← h.len]; cases dstOf ops j <;> simp [Act.put], by have := h.defers; cases dstOf ops j <;> exact this, ?_, ?_, h.pair⟩
    · rcases (hls k).1 hk with rfl | hk
      · exact (hls i).2 (.inr (hjw i hi))
      · exact (hls i).2 (.inr (h.closed k hk i hi))
    · rcases (hls k).1 hk with rfl | hk
      · exact hjL
      · exact h.sub k hk
    · intro t x hx ht
      by_cases htd : dstOf ops j = some t
      · have hlt2 : t < env.length := (List.getElem?_eq_some_iff.1 hx).1
        have hx2 := hd t (by rw [← hdst]; exact htd) hlt2
        rw [hx] at hx2; cases hx2
        rw [htd]
        have : (a.put (some t) cv).tmps.getD t undef = cv := by simp [Act.put, h.len, hlt2]
        rw [this]; exact hcv
      · have h1 := h.rep t x hx (fun i hi hl hdi => by
          by_cases hij : i = j
          · subst hij; exact htd hdi
          · exact ht i hi (fun hl' => by rcases (hls i).1 hl' with h | h; exact hij h; exact hl h) hdi)
        have : (a.put (dstOf ops j) cv).tmps.getD t undef = a.tmps.getD t undef := by
          cases hdd : dstOf ops j with
          | none => rfl
          | some d =>
            have hne : d ≠ t := fun e => htd (by rw [hdd, e])
            simp [Act.put, Array.getElem?_setIfInBounds_ne hne]
        rw [this]; exact h1
    · intro i hi hl
      exact h.early i hi (fun hl' => hl ((hls i).2 (.inr hl')))
  unfold wpOpIn
  rw [ho]
  simp only
  rcases hokJ with ⟨h1, h2⟩ | ⟨h1, rfl⟩
  · rw [if_pos (wanted_of hEJ h1)]
    obtain ⟨cv, h3, h4⟩ := hval_ok h2 h.rel hEJ
    exact upon_ok (fun c hc => by rw [hc] at h2; cases h2) h3 (by rw [← hdst]; exact hn cv (hinv cv h4))
  · rw [if_neg (by rw [wanted_of hEJ h1]; exact Bool.false_ne_true)]
    refine ⟨fun _ _ => trivial, ?_⟩
    rw [← hdst]
    exact hn undef (hinv undef (.lit _))
theorem watch_mem {env : List HV} {s' : HS} {R : Prop} : ∀ {W : List Nat}, watchOK P ops env s s' W R → (∀ i ∈ W, ∀ o, ops[i]? = some o → isRead o.op = true → hval P o.op env s' = hval P o.op env s) ∧ R
  | [], h => ⟨fun i hi => by simp at hi, h⟩
  | k :: W, h => by
    unfold watchOK at h
    simp only [hite_eq] at h
    cases ho : ops[k]? with
    | none =>
      rw [ho] at h
      obtain ⟨h1, h2⟩ := watch_mem h
      refine ⟨fun i hi o hio hr => ?_, h2⟩
      rcases List.mem_cons.1 hi with rfl | hi
      · rw [ho] at hio; cases hio
      · exact h1 i hi o hio hr
    | some o' =>
      rw [ho] at h
      simp only at h
      split at h
      · obtain ⟨h0, h⟩ := h
        obtain ⟨h1, h2⟩ := watch_mem h
        refine ⟨fun i hi o hio hr => ?_, h2⟩
        rcases List.mem_cons.1 hi with rfl | hi
        · rw [ho] at hio; cases hio; exact h0
        · exact h1 i hi o hio hr
      · rename_i hnr
        obtain ⟨h1, h2⟩ := watch_mem h
        refine ⟨fun i hi o hio hr => ?_, h2⟩
        rcases List.mem_cons.1 hi with rfl | hi
        · rw [ho] at hio; cases hio; exact absurd hr hnr
        · exact h1 i hi o hio hr
theorem mem_keepW {W : List Nat} {k i : Nat} : i ∈ keepW ops W k ↔ i ∈ W ∧ reachD ops i ops.size k = false := by
  unfold keepW; simp [List.mem_filter]
/-- A late operation comes up. -/
theorem step_late {L W : List Nat} {kn : Known} {env : List HV} {C : Array Bool} {a : Act} {k : Nat} {o : Oper} {R : Known → List HV → HS → Prop} {next : Act → World → Prop} {Q : Exit → Act → World → Prop} (h : Sim P ops L W env s C m w a)
    (hk : k ∈ Region.ready .any ops C) (hkL : k ∉ L) (ho : ops[k]? = some o) (hkn : KnownH ops env kn) (hc : (W.all (fun i => reads ops i k) && (keepW ops W k).all fun i => bears ops i k) = true)
    (hs : hstep P ops k o kn env s fun kn' env' s' => watchOK P ops env s s' (keepW ops W k) (R kn' env' s'))
    (hn : ∀ m' w' s' kn' v cv, M.le m m' → KnownH ops (hput env o.dst v) kn' → R kn' (hput env o.dst v) s' → Sim P ops (k :: L) (keepW ops W k) (hput env o.dst v) s' (C.setIfInBounds k true) m' w' (a.put o.dst cv) → next (a.put o.dst cv) w') :
    wpOpIn (fR ro) nn P ops Q k next a w := by
  obtain ⟨hlt, hkl, hkw⟩ := (ready_iff h.size).1 hk
  rw [Bool.and_eq_true, List.all_eq_true, List.all_eq_true] at hc
  obtain ⟨hc1, hc2⟩ := hc
  have hdst := dst_of ho
  have hEJ := h.junked
  have hlook := h.looked (k := k) hkw (fun i hi hl d hdi hdl => by
    have := hc1 i hi
    unfold reads at this
    rw [hdi] at this
    simp only [Bool.or_eq_true, Bool.not_eq_true', List.contains_eq_mem, decide_eq_false_iff_not] at this
    exact this.resolve_left (fun h' => h' hdl))
  have hb : ∀ i ∈ keepW ops W k, (∀ d, o.dst = some d → d ∉ looks ops i ∧ dstOf ops i ≠ some d) ∧ (∀ d, dstOf ops i = some d → d ∈ looks ops k → reachD ops i ops.size k = true) := by
    intro i hi
    have := hc2 i hi
    unfold bears at this
    rw [hdst, Bool.and_eq_true] at this
    refine ⟨fun d hd => ?_, fun d hd hl => ?_⟩
    · have h1 := this.1
      rw [hd] at h1
      simp only [Bool.and_eq_true, Bool.not_eq_true', List.contains_eq_mem, decide_eq_false_iff_not, bne_iff_ne, ne_eq] at h1
      exact h1
    · have h1 := this.2
      rw [hd] at h1
      simp only [Bool.or_eq_true, Bool.not_eq_true', List.contains_eq_mem, decide_eq_false_iff_not] at h1
      exact h1.resolve_left (fun h' => h' hl)
  have hls : ∀ i, Lst (C.setIfInBounds k true) i ↔ i = k ∨ Lst C i := fun i => lst_set (by rw [h.size]; exact hlt)
  have hinv : ∀ m' w' s' v cv, M.le m m' → Rel m' s' w' → Rep m' v cv → (∀ i ∈ keepW ops W k, ∀ o, ops[i]? = some o → isRead o.op = true → hval P o.op env s' = hval P o.op env s) →
      Sim P ops (k :: L) (keepW ops W k) (hput env o.dst v) s' (C.setIfInBounds k true) m' w' (a.put o.dst cv) := by
    intro m' w' s' v cv hm hR hv hwat
    refine ⟨by simp [h.size], fun q hq i hi => ?_, fun q hq => ?_, fun q hq hw => ?_, ⟨hlt, hkL, fun i hi => h.sub i (hkw i hi), h.ord⟩, fun i hi => .tail _ (h.wsub i (mem_keepW.1 hi).1), hR, by
      have := h.len
      cases o.dst <;> simp [Act.put, hput, this], by have := h.defers.mono hm; cases o.dst <;> exact this, ?_, ?_, fun i hi q hq => h.pair i (mem_keepW.1 hi).1 q (mem_keepW.1 hq).1⟩
    · rcases (hls q).1 hq with rfl | hq
      · exact (hls i).2 (.inr (hkw i hi))
      · exact (hls i).2 (.inr (h.closed q hq i hi))
    · rcases (hls q).1 hq with rfl | hq
      · exact .head _
      · exact .tail _ (h.sub q hq)
    · rcases List.mem_cons.1 hq with rfl | hq
      · exact (hls q).2 (.inl rfl)
      · by_cases hqW : q ∈ W
        · have hr : reachD ops q ops.size k = true := by
            by_cases hr : reachD ops q ops.size k = true
            · exact hr
            · exact absurd (mem_keepW.2 ⟨hqW, by simpa using hr⟩) hw
          exact (hls q).2 (.inr (reach_lst h.closed ops.size k hr hkw))
        · exact (hls q).2 (.inr (h.done q hq hqW))
    · intro t x hx ht
      by_cases htd : o.dst = some t
      · rw [htd] at hx ⊢
        have hlt2 : t < env.length := by have := (List.getElem?_eq_some_iff.1 hx).1; simpa [hput] using this
        simp only [hput] at hx
        rw [List.getElem?_set_self hlt2] at hx
        cases hx
        have : (a.put (some t) cv).tmps.getD t undef = cv := by simp [Act.put, h.len, hlt2]
        rw [this]; exact hv
      · have hx' : env[t]? = some x := by
          cases hdd : o.dst with
          | none => rw [hdd] at hx; exact hx
          | some d =>
            have hne : d ≠ t := fun e => htd (by rw [hdd, e])
            rw [hdd] at hx; simp only [hput] at hx
            rwa [List.getElem?_set_ne hne] at hx
        have h1 := h.rep t x hx' (fun i hi hl hdi => by
          by_cases hik : i ∈ keepW ops W k
          · exact ht i hik (fun hl' => by rcases (hls i).1 hl' with h' | h'; exact hkL (h' ▸ h.wsub i hi); exact hl h') hdi
          · have hr : reachD ops i ops.size k = true := by
              by_cases hr : reachD ops i ops.size k = true
              · exact hr
              · exact absurd (mem_keepW.2 ⟨hi, by simpa using hr⟩) hik
            exact hl (reach_lst h.closed ops.size k hr hkw))
        have : (a.put o.dst cv).tmps.getD t undef = a.tmps.getD t undef := by
          cases hdd : o.dst with
          | none => rfl
          | some d =>
            have hne : d ≠ t := fun e => htd (by rw [hdd, e])
            simp [Act.put, Array.getElem?_setIfInBounds_ne hne]
        rw [this]; exact h1.mono hm
    · intro i hi hl
      obtain ⟨o', u, ho', hne, hok, hd⟩ := h.early i (mem_keepW.1 hi).1 (fun hl' => hl ((hls i).2 (.inr hl')))
      have hbi := (hb i hi).1
      refine ⟨o', u, ho', hne, ?_, fun d hd' hlt2 => ?_⟩
      · have hcg : ∀ t ∈ looks ops i, hev (hput env o.dst v) (.tmp t) = hev env (.tmp t) := fun t ht => hev_put fun t' ht' => by
          intro e
          cases e
          exact (hbi t ht').1 ht
        refine EOK.congr ho' hcg ?_
        rcases hok with ⟨h1, h2⟩ | ⟨h1, h2⟩
        · refine .inl ⟨h1, ?_⟩
          cases hrd : isRead o'.op with
          | true => rw [hwat i hi o' ho' hrd]; exact h2
          | false => rw [hval_pure (s' := s) hrd]; exact h2
        · exact .inr ⟨h1, h2⟩
      · have hlt3 : d < env.length := by cases hdd : o.dst <;> (rw [hdd] at hlt2; simpa [hput] using hlt2)
        have h3 := hd d hd' hlt3
        cases hdd : o.dst with
        | none => exact h3
        | some q =>
          have hne2 : q ≠ d := fun e => (hbi q hdd).2 (by rw [dst_of ho', hd', e])
          simp only [hput]
          rw [List.getElem?_set_ne hne2]; exact h3
  unfold wpOpIn
  rw [ho]
  simp only
  rcases hstep_cases ho hs hkn with ⟨h1, kn', hk1, h2⟩ | ⟨h1, kn', hk1, h2⟩
  · rw [if_pos (wanted_of hEJ (h1.congr ho hlook))]
    rw [← hdo_congr o (ops_congr ho hlook)] at h2
    refine hdo_ok h2 h.rel hEJ fun m' w' s' v cv g1 g2 g3 g4 => ?_
    obtain ⟨q1, q2⟩ := watch_mem g4
    exact hn m' w' s' _ v cv g1 (hk1.forget o.dst v) q2 (hinv m' w' s' v cv g1 g2 g3 q1)
  · rw [if_neg (by rw [wanted_of hEJ (h1.congr ho hlook)]; exact Bool.false_ne_true)]
    obtain ⟨q1, q2⟩ := watch_mem h2
    refine ⟨fun _ _ => trivial, ?_⟩
    exact hn m w s _ (.lit undef) undef (M.le.refl m) hk1 q2 (hinv m w s _ _ (M.le.refl m) h.rel (.lit _) q1)
/-- An early operation is taken. -/
theorem sim_early {L W : List Nat} {env : List HV} {C : Array Bool} {a : Act} {k : Nat} {o : Oper} {v : HV} (h : Sim P ops L W env s C m w a) (hk : k ∈ readyD ops L) (ho : ops[k]? = some o) (he : isEff P o.op = false)
    (hc : (selfOK ops k && W.all fun i => bears ops i k) = true) (hok : EOK P ops o env s v) : Sim P ops (k :: L) (k :: W) (hput env o.dst v) s C m w a := by
  obtain ⟨hlt, hkL, hkw⟩ := mem_readyD.1 hk
  have hkC : ¬ Lst C k := fun hl => hkL (h.sub k hl)
  rw [Bool.and_eq_true, List.all_eq_true] at hc
  have hdst := dst_of ho
  have hself : ∀ d, o.dst = some d → d ∉ looks ops k := by
    intro d hd
    have := hc.1
    unfold selfOK at this
    rw [hdst, hd] at this
    simpa using this
  have hb : ∀ i ∈ W, (∀ d, o.dst = some d → d ∉ looks ops i ∧ dstOf ops i ≠ some d) ∧ (∀ d, dstOf ops i = some d → d ∈ looks ops k → reachD ops i ops.size k = true) := by
    intro i hi
    have := hc.2 i hi
    unfold bears at this
    rw [hdst, Bool.and_eq_true] at this
    refine ⟨fun d hd => ?_, fun d hd hl => ?_⟩
    · have h1 := this.1
      rw [hd] at h1
      simp only [Bool.and_eq_true, Bool.not_eq_true', List.contains_eq_mem, decide_eq_false_iff_not, bne_iff_ne, ne_eq] at h1
      exact h1
    · have h1 := this.2
      rw [hd] at h1
      simp only [Bool.or_eq_true, Bool.not_eq_true', List.contains_eq_mem, decide_eq_false_iff_not] at h1
      exact h1.resolve_left (fun h' => h' hl)
  have hne : ∀ i ∈ W, i ≠ k := fun i hi e => hkL (e ▸ h.wsub i hi)
  have hcg : ∀ q, (∀ d, o.dst = some d → d ∉ looks ops q) → ∀ t ∈ looks ops q, hev (hput env o.dst v) (.tmp t) = hev env (.tmp t) := fun q hq t ht => hev_put fun t' ht' => by
    intro e
    cases e
    exact hq t ht' ht
  refine ⟨h.size, h.closed, fun j hj => .tail _ (h.sub j hj), fun j hj hw => ?_, ⟨hlt, hkL, hkw, h.ord⟩, fun i hi => ?_, h.rel, by rw [h.len]; cases o.dst <;> simp [hput], h.defers, fun t x hx ht => ?_, fun i hi hl => ?_, fun i hi q hq d hd => ?_⟩
  · rcases List.mem_cons.1 hj with rfl | hj
    · exact absurd (.head _) hw
    · exact h.done j hj (fun h' => hw (.tail _ h'))
  · rcases List.mem_cons.1 hi with rfl | hi
    · exact .head _
    · exact .tail _ (h.wsub i hi)
  · have htd : o.dst ≠ some t := fun e => ht k (.head _) hkC (by rw [hdst, e])
    have hx' : env[t]? = some x := by
      cases hdd : o.dst with
      | none => rw [hdd] at hx; exact hx
      | some d =>
        have hne : d ≠ t := fun e => htd (by rw [hdd, e])
        rw [hdd] at hx; simp only [hput] at hx
        rwa [List.getElem?_set_ne hne] at hx
    exact h.rep t x hx' (fun i hi hl => ht i (.tail _ hi) hl)
  · rcases List.mem_cons.1 hi with rfl | hi
    · refine ⟨o, v, ho, he, hok.congr ho (hcg i hself), fun d hd hlt2 => ?_⟩
      rw [hd] at hlt2 ⊢
      simp only [hput] at hlt2 ⊢
      rw [List.getElem?_set_self (by simpa using hlt2)]
    · obtain ⟨o', u, ho', hne', hok', hd'⟩ := h.early i hi hl
      have hbi := (hb i hi).1
      refine ⟨o', u, ho', hne', hok'.congr ho' (hcg i (fun d hd => (hbi d hd).1)), fun d hd hlt2 => ?_⟩
      have hlt3 : d < env.length := by cases hdd : o.dst <;> (rw [hdd] at hlt2; simpa [hput] using hlt2)
      have h3 := hd' d hd hlt3
      cases hdd : o.dst with
      | none => exact h3
      | some q =>
        have hne2 : q ≠ d := fun e => (hbi q hdd).2 (by rw [dst_of ho', hd, e])
        simp only [hput]
        rw [List.getElem?_set_ne hne2]; exact h3
  · rcases List.mem_cons.1 hi with hik | hi'
    · subst hik
      rw [hdst] at hd
      rcases List.mem_cons.1 hq with hqk | hq'
      · subst hqk
        exact ⟨fun hl => absurd hl (hself d hd), fun h' => absurd rfl h'⟩
      · have := (hb q hq').1 d hd
        exact ⟨fun hl => absurd hl this.1, fun _ => this.2⟩
    · rcases List.mem_cons.1 hq with hqk | hq'
      · subst hqk
        have := hb i hi'
        exact ⟨fun hl => ⟨hne i hi', this.2 d hd hl⟩, fun _ hqd => (this.1 d (by rw [← hdst]; exact hqd)).2 hd⟩
      · exact h.pair i hi' q hq' d hd
def cnt (ops : Array Oper) (C : Array Bool) : Nat := ((List.range ops.size).filter fun k => !C.getD k false).length
theorem filter_lt {p q : Nat → Bool} (hpq : ∀ x, q x = true → p x = true) : ∀ {l : List Nat} {x : Nat}, x ∈ l → p x = true → q x = false → (l.filter q).length < (l.filter p).length
  | [], x, h, _, _ => by simp at h
  | y :: l, x, h, hp, hq => by
    have hle : ∀ l : List Nat, (l.filter q).length ≤ (l.filter p).length := by
      intro l
      induction l with
      | nil => exact Nat.le_refl _
      | cons z l ih =>
        simp only [List.filter_cons]
        cases hz : q z
        · simp only [Bool.false_eq_true, if_false]
          split
          · simp; omega
          · exact ih
        · simp only [hz, hpq z hz, if_true, List.length_cons]; omega
    rcases List.mem_cons.1 h with rfl | h
    · simp only [List.filter_cons, hp, hq, if_true, Bool.false_eq_true, if_false, List.length_cons]
      have := hle l; omega
    · have ih := filter_lt hpq h hp hq
      simp only [List.filter_cons]
      cases hz : q y
      · simp only [Bool.false_eq_true, if_false]
        split
        · simp; omega
        · exact ih
      · simp only [hpq y hz, if_true, List.length_cons]; omega
theorem cnt_lt {C : Array Bool} (hs : C.size = ops.size) {k : Nat} (hk : k ∈ Region.ready .any ops C) : cnt ops (C.setIfInBounds k true) < cnt ops C := by
  obtain ⟨hlt, hl, -⟩ := (ready_iff hs).1 hk
  refine filter_lt (fun x hx => ?_) (List.mem_range.2 hlt) ?_ ?_
  · by_cases hxk : k = x
    · subst hxk; simp [hs, hlt] at hx
    · rw [getD_set_ne false hxk] at hx; exact hx
  · unfold Lst at hl; simpa using hl
  · simp [hs, hlt]
theorem mem_hall {F : Nat → Prop} : ∀ {l : List Nat}, hall l F → ∀ k ∈ l, F k
  | [], h, k, hk => by simp at hk
  | [x], h, k, hk => by simp at hk; subst hk; exact h
  | x :: y :: l, h, k, hk => by
    rcases List.mem_cons.1 hk with rfl | hk
    · exact h.1
    · exact mem_hall h.2 k hk
theorem hdr_ok {K : List HV → HS → Prop} {Q : Exit → Act → World → Prop} : ∀ (hf cf : Nat) (L W : List Nat) (kn : Known) (env : List HV) (s : HS) (C : Array Bool) (m : M) (w : World) (a : Act),
    hdr P ops K hf L W kn env s → KnownH ops env kn → Sim P ops L W env s C m w a → cnt ops C ≤ cf →
    (∀ m' env' s' a' w', M.le m m' → Rel m' s' w' → EnvRep m' env' a' → Fr (opsDsts ops) a a' → K env' s' → Q .normal a' w') → wpAnyIn (fR ro) nn P .any ops Q cf C a w := by
  intro hf
  induction hf with
  | zero => intro cf L W kn env s C m w a h; exact h.elim
  | succ hf ihf =>
    intro cf
    induction cf with
    | zero =>
      intro L W kn env s C m w a h hkn hS hcnt hq
      have hr : Region.ready .any ops C = [] := by
        cases hr : Region.ready .any ops C with
        | nil => rfl
        | cons k r => have := cnt_lt hS.size (k := k) (by rw [hr]; exact .head _); omega
      unfold hdr at h
      simp only [normL_eq, hite_eq] at h
      split at h
      · rename_i k hne
        split at h
        · rename_i o ho
          have hfind := List.find?_some hne
          have hkr := List.mem_of_find?_eq_some hne
          obtain ⟨hlt, hkL, hkw⟩ := mem_readyD.1 hkr
          have hall := all_listed hS.size hr L hS.ord
          have : k ∈ Region.ready .any ops C := (ready_iff hS.size).2 ⟨hlt, fun hl => hkL (hS.sub k hl), fun i hi => hall i (hkw i hi)⟩
          rw [hr] at this; cases this
        · exact h.elim
      · split at h
        · rename_i hrd
          have hall := all_listed hS.size hr L hS.ord
          refine ⟨hr, hq m env s a w (M.le.refl m) hS.rel ⟨hS.len, fun t x hx => hS.rep t x hx (fun i hi hl => absurd (hall i (hS.wsub i hi)) hl), hS.defers⟩ (Fr.refl _ _) h⟩
        · rename_i hrd
          exfalso
          cases hrl : readyD ops L with
          | nil => exact hrd hrl
          | cons k r =>
            obtain ⟨hlt, hkL, hkw⟩ := mem_readyD.1 (show k ∈ readyD ops L by rw [hrl]; exact .head _)
            have hall := all_listed hS.size hr L hS.ord
            have : k ∈ Region.ready .any ops C := (ready_iff hS.size).2 ⟨hlt, fun hl => hkL (hS.sub k hl), fun i hi => hall i (hkw i hi)⟩
            rw [hr] at this; cases this
    | succ cf ihc =>
      intro L W kn env s C m w a h hkn hS hcnt hq
      have h0 := h
      unfold hdr at h
      simp only [normL_eq, hite_eq] at h
      split at h
      · -- an early one is taken
        rename_i k hne
        split at h
        · rename_i o ho
          have hfind := List.find?_some hne
          rw [ho] at hfind
          have hkr := List.mem_of_find?_eq_some hne
          have heff : isEff P o.op = false := by
            simp only [isLate, Bool.not_eq_true', Bool.or_eq_false_iff] at hfind; exact hfind.1
          split at h
          rotate_left
          · exact h.elim
          rename_i hc
          have hs := h
          rcases hstep_cases ho hs hkn with ⟨h1, kn', hk1, h2⟩ | ⟨h1, kn', hk1, h2⟩
          · unfold hdo at h2
            simp only [hite_eq, hbind_eq] at h2
            rw [if_neg (by rw [heff]; exact Bool.false_ne_true)] at h2
            unfold bindO at h2
            split at h2
            rotate_left
            · exact h2.elim
            rename_i v hv
            exact ihf (cf + 1) _ _ _ _ _ C m w a h2 (hk1.forget o.dst v) (sim_early hS hkr ho heff hc (.inl ⟨h1, hv⟩)) hcnt hq
          · exact ihf (cf + 1) _ _ _ _ _ C m w a h2 hk1 (sim_early hS hkr ho heff hc (.inr ⟨h1, rfl⟩)) hcnt hq
        · exact h.elim
      · rename_i hne
        have earlyCase : ∀ j ∈ Region.ready .any ops C, j ∈ L → wpOpIn (fR ro) nn P ops Q j (wpAnyIn (fR ro) nn P .any ops Q cf (C.setIfInBounds j true)) a w := by
          intro j hj hjL
          refine step_early hS hj hjL (fun cv hS' => ?_)
          refine ihc L W kn env s _ m w _ h0 hkn hS' (by have := cnt_lt hS.size hj; omega) (fun m' env' s' a' w' g1 g2 g3 g4 g5 => hq m' env' s' a' w' g1 g2 g3 ?_ g5)
          obtain ⟨o, v, ho, -⟩ := hS.early j (by
            by_cases hw : j ∈ W
            · exact hw
            · exact absurd (hS.done j hjL hw) ((ready_iff hS.size).1 hj).2.1) ((ready_iff hS.size).1 hj).2.1
          exact (Fr.put (fun t ht => dst_mem ho t (by rw [← dst_of ho]; exact ht)) cv).trans g4
        refine ⟨fun hr => ?_, fun j hj => ?_⟩
        · have hall := all_listed hS.size hr L hS.ord
          split at h
          · exact hq m env s a w (M.le.refl m) hS.rel ⟨hS.len, fun t x hx => hS.rep t x hx (fun i hi hl => absurd (hall i (hS.wsub i hi)) hl), hS.defers⟩ (Fr.refl _ _) h
          · rename_i hrd
            exfalso
            cases hrl : readyD ops L with
            | nil => exact hrd hrl
            | cons k r =>
              obtain ⟨hlt, hkL, hkw⟩ := mem_readyD.1 (show k ∈ readyD ops L by rw [hrl]; exact .head _)
              have : k ∈ Region.ready .any ops C := (ready_iff hS.size).2 ⟨hlt, fun hl => hkL (hS.sub k hl), fun i hi => hall i (hkw i hi)⟩
              rw [hr] at this; cases this
        · by_cases hjL : j ∈ L
          · exact earlyCase j hj hjL
          · obtain ⟨hlt, hjl, hjw⟩ := (ready_iff hS.size).1 hj
            have hjr : j ∈ readyD ops L := mem_readyD.2 ⟨hlt, hjL, fun i hi => hS.sub i (hjw i hi)⟩
            split at h
            · rename_i hrd; rw [hrd] at hjr; cases hjr
            · have h1 := mem_hall h j hjr
              split at h1
              · rename_i o ho
                split at h1
                rotate_left
                · exact h1.elim
                rename_i hc
                have hs := h1
                refine step_late hS hj hjL ho hkn hc hs (fun m' w' s' kn' v cv g1 g2 g3 g4 => ?_)
                refine ihf cf _ _ _ _ _ _ m' w' _ g3 g2 g4 (by have := cnt_lt hS.size hj; omega) (fun m'' env'' s'' a'' w'' q1 q2 q3 q4 q5 => hq m'' env'' s'' a'' w'' (g1.trans q1) q2 q3 ?_ q5)
                exact (Fr.put (dst_mem ho) cv).trans q4
              · exact h1.elim
theorem hdraw_ok {id : Nat} {K : List HV → HS → Prop} {Q : Exit → Act → World → Prop} {env : List HV} {a : Act} (h : hdraw P ops K env s) (hR : Rel m s w) (hE : EnvRep m env a)
    (hq : ∀ m' env' s' a' w', M.le m m' → Rel m' s' w' → EnvRep m' env' a' → Fr (opsDsts ops) a a' → K env' s' → Q .normal a' w') : (Code.region id ops true).wpIn (fR ro) nn P Q a w := by
  unfold hdraw at h
  simp only [hite_eq] at h
  split at h
  rotate_left
  · exact h.elim
  rename_i hm
  have hS : Sim P ops [] [] env s (Array.replicate ops.size false) m { w with drawn := w.drawn + 1 } a := by
    refine ⟨by simp, fun k hk => ?_, fun j hj => ?_, fun j hj => by simp at hj, trivial, fun i hi => by simp at hi, hR.drew, hE.size, hE.defers, fun t x hx _ => hE.rep t x hx, fun i hi => by simp at hi, fun i hi => by simp at hi⟩
    · unfold Lst at hk
      simp only [Array.getD_eq_getD_getElem?, Array.getElem?_replicate] at hk
      split at hk <;> simp at hk
    · unfold Lst at hj
      simp only [Array.getD_eq_getD_getElem?, Array.getElem?_replicate] at hj
      split at hj <;> simp at hj
  have hany := hdr_ok (ro := ro) (nn := nn) (Q := Q) _ ops.size _ _ _ _ _ _ _ _ _ h (fun j b hj => by cases hj) hS (by unfold cnt; exact Nat.le_trans (List.length_filter_le _ _) (by simp)) hq
  refine wpIn_region_draw fun t => ?_
  unfold Region.schedule
  rw [if_pos hm]
  exact wpAnyIn_sound ops.size t _ a _ hany
end Go.Proofs.Ythfoanmokcepcaa.H
namespace Go.Proofs.Ythfoanmokcepcaa.H
open Go.RowKit Go.MapKept
set_option linter.unusedVariables false
set_option linter.unusedSimpArgs false
variable {P : Program} {m : M} {s : HS} {w : World}
def codeDsts : Code → List Nat
  | .region _ ops _ => opsDsts ops
  | .seq a b => codeDsts a ++ codeDsts b
  | .cond _ a b => codeDsts a ++ codeDsts b
  | .block _ c => codeDsts c
  | .scope c => codeDsts c
  | .loop c => codeDsts c
  | _ => []
def setAll : List HV → List Nat → List HV → List HV
  | e, [], _ => e
  | e, t :: ts, xs => setAll (e.set t (xs.headD .junk)) ts xs.tail
def rebuild (env : List HV) (mods live : List Nat) (xs : List HV) : List HV := setAll (junkAll env mods) live xs
def getAll (env : List HV) (live : List Nat) : List HV := live.map fun t => env.getD t (.lit undef)
def Join (A : (List HV → HS → Prop) → Prop) (B : List HV → HS → Prop) : Prop := A B
/-- What stands there may be told otherwise. -/
def JoinU (A : (List HV → HS → Prop) → Prop) (B : List HV → HS → Prop) : Prop := A fun xs s => ∃ xs' s', UpL xs s xs' s' ∧ B xs' s'
abbrev upMark (live : List Nat) : Bool := match live with | t :: _ => Nat.beq t 1000000 | [] => false
def HLoop (F : List HV → HS → (List HV → HS → Prop) → Prop) (xs0 : List HV) (s0 : HS) : Prop :=
  ∃ (J : List HV → HS → Prop) (μ : List HV → HS → Nat), (∃ xs s, UpL xs0 s0 xs s ∧ J xs s) ∧ ∀ xs s, J xs s → F xs s fun xs' s' => ∃ xs'' s'', UpL xs' s' xs'' s'' ∧ J xs'' s'' ∧ μ xs'' s'' < μ xs s
abbrev HQ := Exit → List HV → HS → Prop
abbrev hthen (K : List HV → HS → Prop) (Q : HQ) : HQ
  | .normal, env, s => K env s
  | e, env, s => Q e env s
abbrev hblock (id : Nat) (Q : HQ) : HQ
  | .exit id', env, s => if id' = id then Q .normal env s else Q (.exit id') env s
  | e, env, s => Q e env s
abbrev hscope (Q : HQ) : HQ
  | .goto _, _, _ => False
  | e, env, s => Q e env s
abbrev setC (env : List HV) (c : Operand) (b : Bool) : List HV := match c with | .tmp t => env.set t (.lit (.bool b)) | _ => env
/-- A range over a function: the function is called with yield; each round is the body's. -/
def HRange (P : Program) (gv : HV) (n : Nat) (env : List HV) (B : (HS → (HS → Prop) → Prop) → List HV → HS → (Exit → HS → Prop) → Prop) (s : HS) (Qn Qr : HS → Prop) (Qx : Nat → HS → Prop) : Prop :=
  match gv with
  | .func (.func f) caps => hite (plainFn P f) (∀ (idl : Nat) (r : Loop), s idl = none →
      (∀ (xs : List HV) (t : HS) (K : HV → HS → Prop), t idl = some (.tok r env (some none)) → xs.length = n →
        B (fun t' G => t' idl = some (.tok r env (some none)) ∧ G (t'.set idl (.tok r env none))) xs t (fun e t' => t' idl = some (.tok r env none) ∧ match e with
          | .normal => K (.lit (.bool true)) (t'.set idl (.tok r env (some none)))
          | .ret => K (.lit (.bool false)) (t'.set idl (.tok r env (some (some .ret))))
          | .exit i => K (.lit (.bool false)) (t'.set idl (.tok r env (some (some (.exit i)))))
          | _ => False) → HY P idl xs t K) →
      HC P f (.yld idl :: caps) (s.set idl (.tok r env (some none))) (fun _ s' =>
        (s' idl = some (.tok r env (some none)) ∧ Qn (s'.del idl)) ∨ (s' idl = some (.tok r env (some (some .ret))) ∧ Qr (s'.del idl)) ∨ ∃ i, s' idl = some (.tok r env (some (some (.exit i)))) ∧ Qx i (s'.del idl))) False
  | _ => False
def hwp (P : Program) (ann : Nat → Option (List Nat)) : Bool → Nat → Code → HQ → List HV → HS → Prop
  | _, _, .skip, Q, env, s => Q .normal env s
  | _, _, .label _, Q, env, s => Q .normal env s
  | _, _, .region _ ops false, Q, env, s => hops P ops (Q .normal) (List.range ops.size) [] env s
  | _, _, .region _ ops true, Q, env, s => hdraw P ops (Q .normal) env s
  | rn, p, .seq a b, Q, env, s =>
    match ann p with
    | none => hwp P ann rn (2 * p) a (hthen (hwp P ann rn (2 * p + 1) b Q) Q) env s
    | some live => match upMark live with
      | true => JoinU (fun K => hwp P ann rn (2 * p) a (hthen (fun env' s' => K (getAll env' live.tail) s') Q) env s) (fun xs s' => hwp P ann rn (2 * p + 1) b Q (rebuild env (codeDsts a) live.tail xs) s')
      | false => Join (fun K => hwp P ann rn (2 * p) a (hthen (fun env' s' => K (getAll env' live) s') Q) env s) (fun xs s' => hwp P ann rn (2 * p + 1) b Q (rebuild env (codeDsts a) live xs) s')
  | rn, p, .cond c x y, Q, env, s => hcond (hev env c) (hwp P ann rn (2 * p) x Q (setC env c true) s) (hwp P ann rn (2 * p + 1) y Q (setC env c false) s)
  | rn, p, .block id c, Q, env, s => hwp P ann rn (2 * p) c (hblock id Q) env s
  | rn, p, .scope c, Q, env, s => hwp P ann rn (2 * p) c (hscope Q) env s
  | _, _, .exit id, Q, env, s => Q (.exit id) env s
  | rn, p, .loop c, Q, env, s =>
    match ann p with
    | none => False
    | some live => HLoop (fun xs s' K => hwp P ann rn (2 * p) c (hthen (fun env' s'' => K (getAll env' live) s'') Q) (rebuild env (codeDsts c) live xs) s') (getAll env live) s
  | _, _, .ret, Q, env, s => Q .ret env s
  | rn, p, .rangeFunc g ps asg body, Q, env, s =>
    match rn with
    | true => False
    | false => normL env fun env => HRange P (hev env g) ps.size env (fun bg xs t K => hwp P ann true (2 * p) asg (hthen (fun env' t' => bg t' fun t'' => hwp P ann true (2 * p + 1) body (fun e _ t3 => K e t3) env' t'') (fun _ _ _ => False)) (setAll env ps.toList xs) t) s (fun s' => Q .normal env s') (fun s' => Q .ret env s') (fun i s' => Q (.exit i) env s')
  | _, _, _, _, _, _ => False
abbrev FrS := Fr
def Post (m : M) (mods : List Nat) (a : Act) (Q : HQ) : Exit → Act → World → Prop := fun e a' w' =>
  ∃ m' env' s', M.le m m' ∧ Rel m' s' w' ∧ EnvRep m' env' a' ∧ FrS mods a a' ∧ env'.length = a.tmps.size ∧ Q e env' s'
theorem setAll_rep {a : Act} : ∀ (live : List Nat) (e xs : List HV), EnvRep m e a → RepsL m xs (live.map fun t => a.tmps.getD t undef) → EnvRep m (setAll e live xs) a
  | [], e, xs, h, _ => h
  | t :: ts, e, [], h, hx => by have := hx.1; simp at this
  | t :: ts, e, x :: xs, h, hx => by
    refine setAll_rep ts (e.set t x) xs ⟨by simp [h.size], fun k y hk => ?_, h.defers⟩ ⟨by have := hx.1; simpa using this, fun j y hj => by have := hx.2 (j + 1) y (by simpa using hj); simpa using this⟩
    by_cases hkt : t = k
    · subst hkt
      have hlt : t < e.length := by have := (List.getElem?_eq_some_iff.1 hk).1; simpa using this
      rw [List.getElem?_set_self hlt] at hk
      have hk' : x = y := Option.some.inj hk
      have := hx.2 0 x rfl
      rw [← hk']
      simpa using this
    · rw [List.getElem?_set_ne hkt] at hk
      exact h.rep k y hk
theorem getAll_rep {env' : List HV} {a : Act} (hE : EnvRep m env' a) (live : List Nat) : RepsL m (getAll env' live) (live.map fun t => a.tmps.getD t undef) := by
  refine ⟨by simp [getAll], fun j x hj => ?_⟩
  simp only [getAll, List.getElem?_map] at hj
  cases hl : live[j]? with
  | none => rw [hl] at hj; cases hj
  | some t =>
    rw [hl] at hj
    cases hj
    have : (live.map fun t => a.tmps.getD t undef).getD j undef = a.tmps.getD t undef := by simp [List.getD, hl]
    rw [this]
    exact hE.eval (.tmp t)
/-- What is known behind a piece of code. -/
theorem rebuild_rep {m' : M} {mods live : List Nat} {env xs : List HV} {a a' : Act} (hE : EnvRep m env a) (hm : M.le m m') (hd : Marks m' a'.defers) (hx : RepsL m' xs (live.map fun t => a'.tmps.getD t undef)) (hF : FrS mods a a') : EnvRep m' (rebuild env mods live xs) a' := by
  refine setAll_rep live _ xs ⟨by rw [junk_len, hF.1, hE.size], fun t x ht => ?_, hd⟩ hx
  rcases junk_at mods env t x ht with rfl | ⟨h1, h2⟩
  · exact .junk _
  · rw [hF.2 t h1]
    exact (hE.rep t x h2).mono hm
theorem wpIn_loop' {F : Fence} {nn : Nat} {c : Code} {Q : Exit → Act → World → Prop} {a : Act} (R : Nat → Act → World → Prop) (n : Nat) (h₀ : R n a w)
    (round : ∀ n a w, R n a w → c.wpIn F nn P (Exit.then (fun a' w' => ∃ n', n' < n ∧ R n' a' w') Q) a w) : (Code.loop c).wpIn F nn P Q a w := by
  let T : Act → World → Prop := fun a w => ∃ n, R n a w
  let μ : Act → World → Nat := fun a w => Classical.epsilon fun n => R n a w ∧ ∀ k, R k a w → n ≤ k
  have hex : ∀ {p : Nat → Prop}, (∃ n, p n) → ∃ n, p n ∧ ∀ k, p k → n ≤ k := by
    intro p h
    obtain ⟨n, hn⟩ := h
    induction n using Nat.strongRecOn with
    | ind n ih =>
      by_cases hk : ∃ k, k < n ∧ p k
      · obtain ⟨k, h1, h2⟩ := hk
        exact ih k h1 h2
      · exact ⟨n, hn, fun k hpk => Nat.le_of_not_lt fun hlt => hk ⟨k, hlt, hpk⟩⟩
  have hμ : ∀ a w, T a w → R (μ a w) a w ∧ ∀ k, R k a w → μ a w ≤ k := fun a w h => Classical.epsilon_spec (hex h)
  refine wpIn_loop T μ ⟨n, h₀⟩ fun a w hT => ?_
  obtain ⟨h1, h2⟩ := hμ a w hT
  refine wpIn_mono (round _ a w h1) ?_
  intro e a' w' hq
  cases e with
  | normal =>
    obtain ⟨n', hlt, hR⟩ := hq
    exact ⟨⟨n', hR⟩, Nat.lt_of_le_of_lt ((hμ a' w' ⟨n', hR⟩).2 n' hR) hlt⟩
  | _ => exact hq
section
variable {b : Frame} {a : Act} {k : List Item} {cs : List Frame}
theorem stepR_scope {c : Code} : step P (lone (b.atR a (.code (.scope c) :: k)) cs w) = .next (lone (b.atR a (.code c :: .inScope c :: k)) cs w) :=
  step_lone_go (by simp [stepG, stepG.exec, Frame.atR])
theorem stepR_inScope {c : Code} : step P (lone (b.atR a (.inScope c :: k)) cs w) = .next (lone (b.atR a k) cs w) :=
  step_lone_go (by simp [stepG, stepG.exec, Frame.atR])
end
theorem wpIn_scope_straight {F : Fence} {nn : Nat} {c : Code} {Q : Exit → Act → World → Prop} {a : Act} (h : c.wpIn F nn P (Exit.noGoto Q) a w) : (Code.scope c).wpIn F nn P Q a w := by
  intro b k cs hro hb hr
  have h0 : (lone (b.atR a (.code (.scope c) :: k)) cs w).fenced P F := fenced_calm hb hr rfl
  obtain ⟨e, a₁, w₁, hq, harr⟩ := h b (.inScope c :: k) cs hro hb hr
  cases e with
  | normal => exact ⟨.normal, a₁, w₁, hq, .head h0 stepR_scope (StepsIn.trans harr (.one (fenced_calm hb hr rfl) stepR_inScope))⟩
  | exit id => exact ⟨.exit id, a₁, w₁, hq, fun k' hk => .head h0 stepR_scope (harr.1 k' (by simp [exitTo, hk])), fun hr' hk => let ⟨k₁, h1, h2⟩ := harr.2 hr' (by simp [exitTo, hk]); ⟨k₁, h1, .head h0 stepR_scope h2⟩⟩
  | goto l => exact hq.elim
  | ret => exact ⟨_, a₁, w₁, hq, .of_steps (.one h0 stepR_scope) harr⟩
  | panic ch => exact ⟨_, a₁, w₁, hq, .of_steps (.one h0 stepR_scope) harr⟩
  | outgrown => exact ⟨_, a₁, w₁, hq, .of_steps (.one h0 stepR_scope) harr⟩
/-- A range's record is turned. -/
theorem Rel.tok {id : Nat} {r : Loop} {env : List HV} {st : Option (Option Code)} {l : Loc} (h : Rel m s w) (hi : s id = some (.tok r env st)) (hl : m.loc id = some l) (st' : Option (Option Code)) :
    Rel m (s.set id (.tok r env st')) (w.putObj l.b (.loop (tokOf r st'))) := by
  have ho := h.objs id _ l hi hl
  exact h.upd hi hl (fun b hb => World.putObj_heap_other hb) rfl rfl rfl (by simp) ⟨World.putObj_heap_same ho.lt, ho.2⟩
theorem foldl_rep : ∀ (ps : List Nat) (cargs : List Value) (tmps : Array Value) (env xs : List HV) (ds : List Deferred), cargs.length = ps.length → RepsL m xs cargs → EnvRep m env { tmps := tmps, defers := ds } →
    EnvRep m (setAll env ps xs) { tmps := (ps.zip cargs).foldl (fun t (p, v) => t.setIfInBounds p v) tmps, defers := ds }
  | [], cargs, tmps, env, xs, ds, hl, hx, hE => by simpa [setAll] using hE
  | p :: ps, [], tmps, env, xs, ds, hl, hx, hE => by simp at hl
  | p :: ps, c :: cs, tmps, env, [], ds, hl, hx, hE => by have := hx.1; simp at this
  | p :: ps, c :: cs, tmps, env, x :: xs, ds, hl, hx, hE => by
    show EnvRep m (setAll (env.set p x) ps xs) { tmps := (ps.zip cs).foldl (fun t (p, v) => t.setIfInBounds p v) (tmps.setIfInBounds p c), defers := ds }
    refine foldl_rep ps cs _ _ xs ds (by simpa using hl) ⟨by simpa using hx.1, fun j y hj => by simpa using hx.2 (j + 1) y (by simpa using hj)⟩ ⟨by simpa using hE.size, fun t y ht => ?_, hE.defers⟩
    by_cases htp : p = t
    · subst htp
      have hlt : p < env.length := by have := (List.getElem?_eq_some_iff.1 ht).1; simpa using this
      rw [List.getElem?_set_self hlt] at ht
      cases ht
      have h0 := hx.2 0 x rfl
      have hlt' : p < tmps.size := by have := hE.size; simp only at this; omega
      simp only [Array.getD_eq_getD_getElem?, Array.getElem?_setIfInBounds_self_of_lt hlt']
      simpa using h0
    · rw [List.getElem?_set_ne htp] at ht
      have := hE.rep t y ht
      simp only [Array.getD_eq_getD_getElem?] at this ⊢
      rw [Array.getElem?_setIfInBounds_ne htp]
      exact this
theorem range_ok {A B : HQ → List HV → HS → Prop} {g : Operand} {ps : Array Tmp} {asg body : Code} {Q : HQ} {env : List HV} {s : HS} {a : Act}
    (ihA : ∀ (ro : Option Nat) (Q : HQ) (env : List HV) (s : HS), A Q env s → ∀ (m : M) (w : World) (a : Act), Rel m s w → EnvRep m env a → asg.wpIn (fR ro) 0 P (Post m (codeDsts asg) a Q) a w)
    (ihB : ∀ (ro : Option Nat) (Q : HQ) (env : List HV) (s : HS), B Q env s → ∀ (m : M) (w : World) (a : Act), Rel m s w → EnvRep m env a → body.wpIn (fR ro) 0 P (Post m (codeDsts body) a Q) a w)
    (h : HRange P (hev env g) ps.size env (fun bg xs t K => A (hthen (fun env' t' => bg t' fun t'' => B (fun e _ t3 => K e t3) env' t'') (fun _ _ _ => False)) (setAll env ps.toList xs) t) s (fun s' => Q .normal env s') (fun s' => Q .ret env s') (fun i s' => Q (.exit i) env s'))
    (hR : Rel m s w) (hE : EnvRep m env a) : (Code.rangeFunc g ps asg body).wpIn (fR none) 0 P (Post m (codeDsts (.rangeFunc g ps asg body)) a Q) a w := by
  unfold HRange at h
  split at h
  case h_2 => exact h.elim
  rename_i f caps hg
  rw [hite_eq] at h
  split at h
  case isFalse => exact h.elim
  rename_i hp
  unfold plainFn at hp
  have hrf := hE.eval g
  rw [hg] at hrf
  generalize hcf : a.eval g = cf at hrf
  cases hrf with
  | func _ _ vs hs hr =>
  cases hfn : P.funcs[f]? with
  | none => rw [hfn] at hp; cases hp
  | some fd =>
  rw [hfn] at hp
  simp only [Bool.and_eq_true, bne_iff_ne, ne_eq] at hp
  obtain ⟨hb, hname⟩ := hp
  refine wpIn_rangeFunc fun fn _ => ?_
  obtain ⟨rec, hrec⟩ : ∃ rec : Loop, rec = { state := .ready, pending := none, fn := fn, tmps := a.tmps, params := ps, assign := asg, body := body, defers := w.heap.size } := ⟨_, rfl⟩
  obtain ⟨hm1, hR1⟩ := hR.mark (.deferred (some []))
  obtain ⟨N, hN1, hN2, hN3, hnew⟩ := hR1.new (.loop rec) 0
  generalize hM : ({ m with w0 := w.alloc (.deferred (some [])), fix := ⟨fun k => m.fix k ∨ k = w.heap.size, m.fix.old, fun k hk => .inl (m.fix.sub k hk)⟩ } : M) = m1 at hm1 hR1 hN2 hN3 hnew
  obtain ⟨hm2, hR2⟩ := hnew (.tok rec env (some none)) ⟨by
      have := World.alloc_heap_new (w.alloc (.deferred (some []))) (.loop rec)
      rw [this, hrec]; rfl, by rw [hrec]; exact hE.size, fun t x ht => by
      rw [hrec]
      exact ((hE.rep t x ht).mono hm1).mono (M.le.mk' rfl rfl (fun _ _ _ x => x) (fun id l hl => by
        show (if id = N then _ else m1.loc id) = some l
        rw [if_neg (fun e => by rw [e, hN2] at hl; cases hl)]; exact hl) rfl (fun id hr => by
        show (if id = N then _ else m1.loc id) = m1.loc id
        rw [if_neg (fun e => by rw [e, hN3] at hr; cases hr)]))⟩
  generalize hM2 : ({ m1 with loc := fun k => if k = N then some ⟨(w.alloc (.deferred (some []))).heap.size, 0, 0⟩ else m1.loc k } : M) = m2 at hm2 hR2
  have hlN : m2.loc N = some ⟨w.heap.size + 1, 0, 0⟩ := by rw [← hM2]; simp
  have hle := hm1.trans hm2
  have hfD : m2.fix w.heap.size ∧ ¬ m2.fix.old w.heap.size ∧ m2.w0.heap[w.heap.size]? = some (.deferred (some [])) := by
    rw [← hM2, ← hM]
    exact ⟨.inr rfl, fun ho => Nat.lt_irrefl _ (hR.below.block _ (m.fix.sub _ ho)).1, World.alloc_heap_new w _⟩
  have hC := h N rec hN1
  have henter : (Instr.enterLoop fn a.tmps ps asg body (fR none).round).run P w = .ok (w.heap.size + 1, [{ target := .collected w.heap.size, args := #[] }]) ((w.alloc (.deferred (some []))).alloc (.loop rec)) := by
    rw [hrec]; exact run_enterLoop_outer _ _ _ _ _
  have hbody : ∃ c0, fd.body = some c0 := Option.isSome_iff_exists.1 hb
  refine ⟨w.heap.size + 1, [{ target := .collected w.heap.size, args := #[] }], _, { target := .fn (.func f) vs, args := #[.func (.yield (w.heap.size + 1)) #[] #[]] }, (w.alloc (.deferred (some []))).alloc (.loop rec), f,
    #[.func (.yield (w.heap.size + 1)) #[] #[]] ++ vs, (w.alloc (.deferred (some []))).alloc (.loop rec), henter, ?_, fun _ _ => trivial, ?_, fun h => (by cases h), fR_calls.2 ?_⟩
  · simp only [resolve, hcf]
    simp [go_sem]
  · obtain ⟨c0, hbody⟩ := hbody
    simp [invoke, callFunc, hfn, hname, hbody]
  have hargs : ∀ (j : Nat) x, (HV.yld N :: caps)[j]? = some x → Rep m2 x ((#[Value.func (.yield (w.heap.size + 1)) #[] #[]] ++ vs).getD j undef) := fun j x hj => ?args
  have hC2 := hC ?round
  have hC3 := hC2 m2 _ (#[Value.func (.yield (w.heap.size + 1)) #[] #[]] ++ vs) hR2 (by simp [hs]; omega) hargs
  refine Calls.mono hC3 ?post
  case round =>
    -- a round
    intro xs t K ht hxn hA m' w' cargs l hR' hl' hn' ha'
    have ho := hR'.objs N _ l ht hl'
    have hL : w'.heap[l.b]? = some (.loop rec) := by rw [ho.1, hrec]; rfl
    have hy := run_yield (P := P) (args := cargs) hL (by rw [hrec]; simp only; omega)
    refine ⟨_, _, _, _, hy, roundIn_of_wpIn (F := Fence.wide) trivial ?_⟩
    have hE' : EnvRep m' (setAll env ps.toList xs) { tmps := (rec.params.zip cargs).foldl (fun t (p, v) => t.setIfInBounds p v) rec.tmps, defers := [] } := by
      have hzip : (rec.params.zip cargs).foldl (fun t (p, v) => t.setIfInBounds p v) rec.tmps = (ps.toList.zip cargs.toList).foldl (fun t (p, v) => t.setIfInBounds p v) rec.tmps := by
        rw [← Array.foldl_toList, Array.toList_zip, hrec]
      rw [hzip]
      refine foldl_rep ps.toList cargs.toList rec.tmps env xs [] (by simp; omega) ⟨by simpa using hn', fun j x hj => by have := ha' j x hj; simpa [List.getD, Array.getD_eq_getD_getElem?] using this⟩ ⟨ho.2.1, ho.2.2, Marks.nil _⟩
    have hasg : rec.assign = asg := by rw [hrec]
    have hbdy : rec.body = body := by rw [hrec]
    rw [hasg, hbdy]
    refine wpIn_mono (ihA (some l.b) _ _ _ hA m' w' _ hR' hE') ?_
    rintro e a1 w1 ⟨m3, env3, t3, g1, g2, g3, g4, g5, g6⟩
    cases e with
    | normal =>
      obtain ⟨g6, g7⟩ := g6
      have hl3 := g1.loc _ _ hl'
      have ho3 := g2.objs N _ l g6 hl3
      refine ⟨_, run_beginRound ho3.1 rfl, ?_⟩
      have hR3 := g2.tok g6 hl3 none
      refine wpIn_mono (ihB (some l.b) _ _ _ g7 m3 _ a1 hR3 g3) ?_
      rintro e a4 w4 ⟨m4, env4, t4, q1, q2, q3, q4, q5, q6, q7⟩
      have hl4 := q1.loc _ _ hl3
      have ho4 := q2.objs N _ l q6 hl4
      cases e with
      | normal => exact ⟨_, _, run_endRound none ho4.1, _, _, _, m4, rfl, g1.trans q1, q2.tok q6 hl4 (some none), .lit _, q7⟩
      | ret => exact ⟨_, _, run_endRound (some .ret) ho4.1, _, _, _, m4, rfl, g1.trans q1, q2.tok q6 hl4 (some (some .ret)), .lit _, q7⟩
      | exit id => exact ⟨_, _, run_endRound (some (.exit id)) ho4.1, _, _, _, m4, rfl, g1.trans q1, q2.tok q6 hl4 (some (some (.exit id))), .lit _, q7⟩
      | goto id => exact q7.elim
      | panic ch => exact q7.elim
      | outgrown => exact q7.elim
    | ret => exact g6.elim
    | exit id => exact g6.elim
    | goto id => exact g6.elim
    | panic ch => exact g6.elim
    | outgrown => exact g6.elim
  case args =>
    cases j with
    | zero =>
      simp at hj
      subst hj
      have : (#[Value.func (.yield (w.heap.size + 1)) #[] #[]] ++ vs).getD 0 undef = .func (.yield (w.heap.size + 1)) #[] #[] := by simp [Array.getD]
      rw [this]
      exact .yld N _ hlN
    | succ j =>
      have hj' : caps[j]? = some x := by simpa using hj
      have h1 := (hr j x hj').mono hle
      have e : (#[Value.func (.yield (w.heap.size + 1)) #[] #[]] ++ vs).getD (j + 1) undef = vs.getD j undef := by
        simp only [Array.getD_eq_getD_getElem?]
        rw [Array.getElem?_append_right (by simp)]
        simp
      rw [e]; exact h1
  case post =>
    rintro e w3 ⟨cv, v, s3, m3, rfl, h1, h2, h3, h4⟩
    have hl3 := h1.loc _ _ hlN
    have fin : ∀ st, s3 N = some (.tok rec env (some st)) → ∃ w4, (Instr.endLoop (w.heap.size + 1)).run P w3 = .ok st w4 ∧ ∀ e, Q e env (s3.del N) → Post m (codeDsts (.rangeFunc g ps asg body)) a Q e { a with defers := [{ target := .collected w.heap.size, args := #[] }] ++ a.defers } w4 := by
      intro st hst
      have ho3 := h2.objs N _ _ hst hl3
      refine ⟨w3.putObj (w.heap.size + 1) (.loop { tokOf rec (some st) with state := .exhausted }), (run_endLoop ho3.1 ?_).trans ?_, fun e hq => ⟨m3, env, s3.del N, hle.trans h1, h2.kill hst hl3 (fun b hb => World.putObj_heap_other hb) rfl rfl rfl (by simp), ⟨hE.size, fun t x ht => ((hE.rep t x ht).mono hle).mono h1, ?_⟩, ⟨rfl, fun _ _ => rfl⟩, hE.size.symm, hq⟩⟩
      · cases st <;> simp [tokOf]
      · cases st <;> rfl
      · have hmk := (hE.defers.mono hle).mono h1
        refine ⟨fun d hd => ?_, ?_⟩
        · rcases List.mem_append.1 hd with hd | hd
          · simp only [List.mem_singleton] at hd
            subst hd
            exact ⟨_, rfl, (h1.fix _ hfD.1).1, by rw [h1.old]; exact hfD.2.1, (h1.fix _ hfD.1).2.trans hfD.2.2⟩
          · exact hmk.1 d hd
        · refine List.Pairwise.cons (fun d hd e => ?_) hmk.2
          obtain ⟨D, hD1, hD2, -⟩ := hE.defers.1 d hd
          rw [← e] at hD1
          simp only [Deferred.mk.injEq, Target.collected.injEq, and_true] at hD1
          rw [← hD1] at hD2
          exact Nat.lt_irrefl _ (hR.below.block _ hD2).1
    rcases h4 with ⟨h5, h6⟩ | ⟨h5, h6⟩ | ⟨i, h5, h6⟩
    · obtain ⟨w4, k1, k2⟩ := fin none h5
      exact ⟨none, w4, k1, k2 _ h6⟩
    · obtain ⟨w4, k1, k2⟩ := fin (some .ret) h5
      exact ⟨_, w4, k1, wpIn_ret (k2 _ h6)⟩
    · obtain ⟨w4, k1, k2⟩ := fin (some (.exit i)) h5
      exact ⟨_, w4, k1, wpIn_exit (k2 _ h6)⟩
theorem hwp_ok {ann : Nat → Option (List Nat)} : ∀ (c : Code) (rn : Bool) (ro : Option Nat) (hro : rn = false → ro = none) (p : Nat) (Q : HQ) (env : List HV) (s : HS), hwp P ann rn p c Q env s → ∀ (m : M) (w : World) (a : Act), Rel m s w → EnvRep m env a →
    c.wpIn (fR ro) 0 P (Post m (codeDsts c) a Q) a w
  | .skip, rn, ro, hro, p, Q, env, s, h, m, w, a, hR, hE => wpIn_skip ⟨m, env, s, M.le.refl m, hR, hE, Fr.refl _ _, hE.size.symm, h⟩
  | .label l, rn, ro, hro, p, Q, env, s, h, m, w, a, hR, hE => wpIn_label ⟨m, env, s, M.le.refl m, hR, hE, Fr.refl _ _, hE.size.symm, h⟩
  | .exit id, rn, ro, hro, p, Q, env, s, h, m, w, a, hR, hE => wpIn_exit ⟨m, env, s, M.le.refl m, hR, hE, Fr.refl _ _, hE.size.symm, h⟩
  | .ret, rn, ro, hro, p, Q, env, s, h, m, w, a, hR, hE => wpIn_ret ⟨m, env, s, M.le.refl m, hR, hE, Fr.refl _ _, hE.size.symm, h⟩
  | .region id ops false, rn, ro, hro, p, Q, env, s, h, m, w, a, hR, hE => by
    refine wpIn_region (hops_ok _ _ _ _ m w a h hR hE (fun j b hj => by cases hj) ?_)
    intro m' env' s' a' w' h1 h2 h3 h4 h5
    exact ⟨m', env', s', h1, h2, h3, h4, by rw [← h3.size]; exact h4.1, h5⟩
  | .region id ops true, rn, ro, hro, p, Q, env, s, h, m, w, a, hR, hE => by
    refine hdraw_ok h hR hE ?_
    intro m' env' s' a' w' h1 h2 h3 h4 h5
    exact ⟨m', env', s', h1, h2, h3, h4, by rw [← h3.size]; exact h4.1, h5⟩
  | .seq x y, rn, ro, hro, p, Q, env, s, h, m, w, a, hR, hE => by
    refine wpIn_seq ?_
    unfold hwp at h
    split at h
    · refine wpIn_mono (hwp_ok x rn ro hro _ _ env s h m w a hR hE) ?_
      rintro e a' w' ⟨m', env', s', h1, h2, h3, h4, h5, h6⟩
      cases e with
      | normal =>
        refine wpIn_mono (hwp_ok y rn ro hro _ _ env' s' h6 m' w' a' h2 h3) ?_
        rintro e a'' w'' ⟨m'', env'', s'', g1, g2, g3, g4, g5, g6⟩
        exact ⟨m'', env'', s'', h1.trans g1, g2, g3, (h4.mono (fun t ht => List.mem_append_left _ ht)).trans (g4.mono (fun t ht => List.mem_append_right _ ht)), by rw [g5, h4.1], g6⟩
      | _ => exact ⟨m', env', s', h1, h2, h3, h4.mono (fun t ht => List.mem_append_left _ ht), h5, h6⟩
    · rename_i live hl
      split at h
      · refine wpIn_mono (hwp_ok x rn ro hro _ _ env s h m w a hR hE) ?_
        rintro e a' w' ⟨m', env', s', h1, h2, h3, h4, h5, h6⟩
        cases e with
        | normal =>
          obtain ⟨xs3, s3, q1, q2⟩ := h6
          obtain ⟨m3, y1, y2, y3⟩ := q1 m' w' _ h2 (getAll_rep h3 live.tail)
          refine wpIn_mono (hwp_ok y rn ro hro _ _ _ s3 q2 m3 w' a' y2 (rebuild_rep hE (h1.trans y1) (h3.defers.mono y1) y3 h4)) ?_
          rintro e a'' w'' ⟨m'', env'', s'', g1, g2, g3, g4, g5, g6⟩
          exact ⟨m'', env'', s'', (h1.trans y1).trans g1, g2, g3, (h4.mono (fun t ht => List.mem_append_left _ ht)).trans (g4.mono (fun t ht => List.mem_append_right _ ht)), by rw [g5, h4.1], g6⟩
        | _ => exact ⟨m', env', s', h1, h2, h3, h4.mono (fun t ht => List.mem_append_left _ ht), h5, h6⟩
      refine wpIn_mono (hwp_ok x rn ro hro _ _ env s h m w a hR hE) ?_
      rintro e a' w' ⟨m', env', s', h1, h2, h3, h4, h5, h6⟩
      cases e with
      | normal =>
        refine wpIn_mono (hwp_ok y rn ro hro _ _ _ s' h6 m' w' a' h2 (rebuild_rep hE h1 h3.defers (getAll_rep h3 live) h4)) ?_
        rintro e a'' w'' ⟨m'', env'', s'', g1, g2, g3, g4, g5, g6⟩
        exact ⟨m'', env'', s'', h1.trans g1, g2, g3, (h4.mono (fun t ht => List.mem_append_left _ ht)).trans (g4.mono (fun t ht => List.mem_append_right _ ht)), by rw [g5, h4.1], g6⟩
      | _ => exact ⟨m', env', s', h1, h2, h3, h4.mono (fun t ht => List.mem_append_left _ ht), h5, h6⟩
  | .cond c x y, rn, ro, hro, p, Q, env, s, h, m, w, a, hR, hE => by
    unfold hwp hcond at h
    have hsc : ∀ b, hev env c = .lit (.bool b) → EnvRep m (setC env c b) a := fun b hb => by
      unfold setC
      split
      · exact setSame hE hb
      · exact hE
    split at h
    · rename_i hb
      refine wpIn_cond_true (lit_or (hE.eval c) hb) ?_
      refine wpIn_mono (hwp_ok x rn ro hro _ _ _ s h m w a hR (hsc _ hb)) ?_
      rintro e a' w' ⟨m', env', s', h1, h2, h3, h4, h5, h6⟩
      exact ⟨m', env', s', h1, h2, h3, h4.mono (fun t ht => List.mem_append_left _ ht), h5, h6⟩
    · rename_i hb
      refine wpIn_cond_false (lit_or (hE.eval c) hb) ?_
      refine wpIn_mono (hwp_ok y rn ro hro _ _ _ s h m w a hR (hsc _ hb)) ?_
      rintro e a' w' ⟨m', env', s', h1, h2, h3, h4, h5, h6⟩
      exact ⟨m', env', s', h1, h2, h3, h4.mono (fun t ht => List.mem_append_right _ ht), h5, h6⟩
    · exact h.elim
  | .block id c, rn, ro, hro, p, Q, env, s, h, m, w, a, hR, hE => by
    refine wpIn_block (wpIn_mono (hwp_ok c rn ro hro _ _ env s h m w a hR hE) ?_)
    rintro e a' w' ⟨m', env', s', h1, h2, h3, h4, h5, h6⟩
    cases e with
    | exit id' =>
      simp only [hblock] at h6
      simp only [Exit.inBlock]
      split
      · rename_i he; rw [if_pos he] at h6; exact ⟨m', env', s', h1, h2, h3, h4, h5, h6⟩
      · rename_i he; rw [if_neg he] at h6; exact ⟨m', env', s', h1, h2, h3, h4, h5, h6⟩
    | _ => exact ⟨m', env', s', h1, h2, h3, h4, h5, h6⟩
  | .loop c, rn, ro, hro, p, Q, env, s, h, m, w, a, hR, hE => by
    unfold hwp at h
    split at h
    · exact h.elim
    · rename_i live hl
      obtain ⟨J, μ, ⟨xs0, s0, hup0, h0⟩, hr⟩ := h
      obtain ⟨m0, z1, z2, z3⟩ := hup0 m w _ hR (getAll_rep hE live)
      refine wpIn_loop' (fun n a' w' => ∃ m' xs s', M.le m m' ∧ Rel m' s' w' ∧ Marks m' a'.defers ∧ RepsL m' xs (live.map fun t => a'.tmps.getD t undef) ∧ FrS (codeDsts c) a a' ∧ J xs s' ∧ μ xs s' = n) (μ xs0 s0)
        ⟨m0, xs0, s0, z1, z2, hE.defers.mono z1, z3, Fr.refl _ _, h0, rfl⟩ ?_
      rintro n a' w' ⟨m', xs, s', h1, h2, h3, h3', h4, h5, rfl⟩
      refine wpIn_mono (hwp_ok c rn ro hro _ _ _ s' (hr _ s' h5) m' w' a' h2 (rebuild_rep hE h1 h3 h3' h4)) ?_
      rintro e a'' w'' ⟨m'', env'', s'', g1, g2, g3, g4, g5, g6⟩
      cases e with
      | normal =>
        obtain ⟨xs3, s3, q1, q2, q3⟩ := g6
        obtain ⟨m3, y1, y2, y3⟩ := q1 m'' w'' _ g2 (getAll_rep g3 live)
        exact ⟨_, q3, m3, xs3, s3, (h1.trans g1).trans y1, y2, g3.defers.mono y1, y3, h4.trans g4, q2, rfl⟩
      | _ => exact ⟨m'', env'', s'', h1.trans g1, g2, g3, h4.trans g4, by rw [g5, h4.1], g6⟩
  | .rangeFunc g ps asg body, rn, ro, hro, p, Q, env, s, h, m, w, a, hR, hE => by
    cases rn with
    | true => exact h.elim
    | false =>
      have hn := hro rfl
      subst hn
      unfold hwp at h
      rw [normL_eq] at h
      exact range_ok (fun ro => hwp_ok asg true ro (fun h => (by cases h)) (2 * p)) (fun ro => hwp_ok body true ro (fun h => (by cases h)) (2 * p + 1)) h hR hE
  | .scope c, rn, ro, hro, p, Q, env, s, h, m, w, a, hR, hE => by
    refine wpIn_scope_straight (wpIn_mono (hwp_ok c rn ro hro _ _ env s h m w a hR hE) ?_)
    rintro e a' w' ⟨m', env', s', h1, h2, h3, h4, h5, h6⟩
    cases e with
    | goto l => exact h6.elim
    | _ => exact ⟨m', env', s', h1, h2, h3, h4, h5, h6⟩
  | .goto _, rn, ro, hro, p, Q, env, s, h, m, w, a, hR, hE => h.elim
  | .refuse _, rn, ro, hro, p, Q, env, s, h, m, w, a, hR, hE => h.elim
def hresult (P : Program) (s : HS) (env : List HV) : ResultVar → Option HV
  | .tmp t => some (env.getD t (.lit undef))
  | .cell p t => match tSize P t, tAgg P t with | some n, some ag => vLoad s (env.getD p (.lit undef)) n ag | _, _ => none
def hresK (P : Program) (s : HS) (env : List HV) : List ResultVar → (List HV → Prop) → Prop
  | [], K => K []
  | r :: rs, K => bindO (hresult P s env r) fun v => hresK P s env rs fun vs => K (v :: vs)
def hret : List HV → HV
  | [v] => v
  | vs => .tup vs
def hretQ (P : Program) (rs : List ResultVar) (Q : HV → HS → Prop) : HQ
  | .normal, env, s => hresK P s env rs fun vs => Q (hret vs) s
  | .ret, env, s => hresK P s env rs fun vs => Q (hret vs) s
  | _, _, _ => False
def resOf (tmps : Array Value) : ResultVar → Sem Value
  | .tmp t => pure (tmps.getD t undef)
  | .cell p t => do loadVar t (← asAddr (tmps.getD p undef))
theorem results_eq (fn : Func) (tmps : Array Value) : results fn tmps = (do let vs ← fn.results.mapM (resOf tmps); pure (if h : vs.size = 1 then vs[0] else .tuple vs)) := by
  unfold results
  congr 1
theorem hresult_ok {env : List HV} {a : Act} {r : ResultVar} {v : HV} (h : hresult P s env r = some v) (hR : Rel m s w) (hE : EnvRep m env a) :
    ∃ cv, (resOf a.tmps r).run P w = .ok cv w ∧ Rep m v cv := by
  cases r with
  | tmp t => simp only [hresult, Option.some.injEq] at h; subst h; exact ⟨_, rfl, hE.eval (.tmp t)⟩
  | cell p t =>
    simp only [hresult] at h
    split at h
    · rename_i n ag hn ha
      obtain ⟨cv, h1, h2⟩ := vLoad_ok (cp := a.tmps.getD p undef) hn ha h hR (hE.eval (.tmp p))
      refine ⟨cv, ?_, h2⟩
      obtain ⟨b, o, cs, vs, hp, -⟩ := place_ok h hR (hE.eval (.tmp p))
      have hp' : a.tmps.getD p undef = .pointer (some ⟨b, o, none⟩) := hp
      simp only [resOf]
      rw [hp'] at h1 ⊢
      exact h1
    · cases h
theorem hresK_ok {env : List HV} {a : Act} (hR : Rel m s w) (hE : EnvRep m env a) : ∀ {rs : List ResultVar} {K : List HV → Prop}, hresK P s env rs K →
    ∃ (cvs : List Value) (vs : List HV), (rs.mapM (resOf a.tmps)).run P w = .ok cvs w ∧ cvs.length = vs.length ∧ (∀ (j : Nat) x, vs[j]? = some x → Rep m x (cvs.getD j undef)) ∧ K vs
  | [], K, h => ⟨[], [], rfl, rfl, (fun j x hj => by simp at hj), h⟩
  | r :: rs, K, h => by
    simp only [hresK, bindO] at h
    split at h
    · rename_i v h1
      obtain ⟨cv, g1, g2⟩ := hresult_ok h1 hR hE
      obtain ⟨cvs, vs, q1, q2, q3, q4⟩ := hresK_ok hR hE h
      refine ⟨cv :: cvs, v :: vs, ?_, by simp [q2], (fun j x hj => ?_), q4⟩
      · rw [List.mapM_cons, rb g1, rb q1]; rfl
      · cases j with
        | zero => simp at hj; subst hj; exact g2
        | succ j => simp at hj; have := q3 j x hj; simpa using this
    · exact h.elim
/-- A block for deferred calls is shut. -/
theorem Rel.unmark {D : Nat} (h : Rel m s w) (hf : m.fix D) (ho : ¬ m.fix.old D) (hw : w.heap[D]? = some (.deferred (some []))) :
    Rel { m with fix := ⟨fun k => m.fix k ∧ k ≠ D, m.fix.old, fun k hk => ⟨m.fix.sub k hk, by rintro rfl; exact ho hk⟩⟩ } s (w.putObj D (.deferred none)) := by
  refine ⟨⟨h.below.os, h.below.tape, h.below.output, fun k hk => ⟨by simpa using (h.below.block k hk.1).1, (World.putObj_heap_other hk.2).trans (h.below.block k hk.1).2⟩⟩, ?_, ?_, ?_, h.inj, h.fin⟩
  · intro b o v hc
    have h1 := h.com b o v hc
    have hne : b ≠ D := by rintro rfl; simp [World.cell?, hw] at h1
    exact (cell_block (World.putObj_heap_other hne)).trans h1
  · intro id ob l hi hl
    refine ((h.objs id ob l hi hl).of_block (World.putObj_heap_other ?_)).ex ⟨fun _ _ _ h => h, fun _ _ h => h⟩
    rintro rfl
    exact (h.own id ob l hi hl).1 hf
  · intro id ob l hi hl
    exact ⟨fun hx => (h.own id ob l hi hl).1 hx.1, (h.own id ob l hi hl).2⟩
theorem leaves_marks {fn : Func} {tmps : Array Value} {R : Ending → World → Prop} : ∀ (ds : List Deferred) (m : M) (w : World), Rel m s w → Marks m ds →
    (∀ (m' : M) (w' : World), m'.com = m.com → m'.loc = m.loc → m'.res = m.res → m'.w0 = m.w0 → m'.fix.old = m.fix.old → Rel m' s w' → ∃ v, (results fn tmps).run P w' = .ok v w' ∧ R (.returned v) w') →
    LeavesInM Fence.wide 0 P fn tmps R ds .returning w
  | [], m, w, hR, hm, hk => hk m w rfl rfl rfl rfl rfl hR
  | d :: ds, m, w, hR, hm, hk => by
    obtain ⟨D, rfl, hf, ho, hc⟩ := hm.1 d (List.mem_cons_self ..)
    have hw := (hR.below.block D hf).2.trans hc
    refine ⟨by simp, .inl ⟨D, _, rfl, run_takeDeferred hw, leaves_marks ds _ _ (hR.unmark hf ho hw) ⟨fun d' hd' => ?_, (List.pairwise_cons.1 hm.2).2⟩ fun m' w' h1 h2 h3 h4 h5 h6 => hk m' w' h1 h2 h3 h4 h5 h6⟩⟩
    obtain ⟨D', rfl, hf', ho', hc'⟩ := hm.1 d' (List.mem_cons_of_mem _ hd')
    exact ⟨D', rfl, ⟨hf', fun e => (List.pairwise_cons.1 hm.2).1 _ hd' (by rw [e])⟩, ho', hc'⟩
/-- A function does what its code says. -/
theorem HC_of {f : FuncId} {fn : Func} {c : Code} {args : List HV} {Q : HV → HS → Prop} {ann : Nat → Option (List Nat)} (hf : P.funcs[f]? = some fn) (hb : fn.body = some c)
    (h : hwp P ann false 1 c (hretQ P fn.results.toList Q) (args ++ List.replicate (fn.ntmps - args.length) (.lit undef)) s) : HC P f args s Q := by
  intro m w cargs hR hn ha
  refine (callsIn_wide (n := 0)).1 (callsIn_of_wp_marks (F := Fence.wide) hf hb trivial ?_)
  obtain ⟨m0, hm0⟩ : ∃ m0 : M, m0 = { m with fix := ⟨m.fix.all, m.fix.all, fun _ h => h⟩ } := ⟨_, rfl⟩
  have hx0 : M.ex m m0 := by rw [hm0]; exact ⟨fun _ _ _ h => h, fun _ _ h => h⟩
  have hR0 : Rel m0 s w := by
    rw [hm0] at hx0 ⊢
    exact ⟨⟨hR.below.os, hR.below.tape, hR.below.output, hR.below.block⟩, hR.com, fun id ob l hi hl => (hR.objs id ob l hi hl).ex hx0, hR.own, hR.inj, hR.fin⟩
  have hE : EnvRep m0 (args ++ List.replicate (fn.ntmps - args.length) (.lit undef)) { tmps := cargs ++ Array.replicate (fn.ntmps - cargs.size) undef, defers := [] } := by
    refine ⟨by simp [hn], fun t x ht => ?_, Marks.nil _⟩
    by_cases hlt : t < args.length
    · rw [List.getElem?_append_left hlt] at ht
      have := ha t x ht
      have e : (cargs ++ Array.replicate (fn.ntmps - cargs.size) undef).getD t undef = cargs.getD t undef := by
        simp only [Array.getD_eq_getD_getElem?]
        rw [Array.getElem?_append_left (by omega)]
      rw [e]; exact this.ex hx0
    · rw [List.getElem?_append_right (by omega), List.getElem?_replicate] at ht
      split at ht
      · cases ht
        rename_i hlt2
        have e : (cargs ++ Array.replicate (fn.ntmps - cargs.size) undef).getD t undef = undef := by
          simp only [Array.getD_eq_getD_getElem?]
          rw [Array.getElem?_append_right (by omega), Array.getElem?_replicate]
          split <;> rfl
        rw [e]; exact .lit _
      · cases ht
  refine wpIn_mono (hwp_ok c false none (fun _ => rfl) 1 _ _ s h m0 w _ hR0 hE) ?_
  have fin : ∀ {m' : M} {env' : List HV} {s' : HS} {a' : Act} {w' : World}, M.le m0 m' → Rel m' s' w' → EnvRep m' env' a' → (hresK P s' env' fn.results.toList fun vs => Q (hret vs) s') →
      LeavesInM Fence.wide 0 P fn a'.tmps (fun e w' => ∃ cv v s' m', e = .returned cv ∧ M.le m m' ∧ Rel m' s' w' ∧ Rep m' v cv ∧ Q v s') a'.defers .returning w' := by
    intro m1 env' s' a' w1 h1 h2 h3 hv
    refine leaves_marks a'.defers m1 w1 h2 h3.defers fun m' w' k1 k2 k3 k4 k5 hR' => ?_
    have hx1 : M.ex m1 m' := ⟨fun b o v hc => by rw [k1]; exact hc, fun id l hl => by rw [k2]; exact hl⟩
    have h3' : EnvRep m' env' { tmps := a'.tmps, defers := [] } := ⟨h3.size, fun t x ht => (h3.rep t x ht).ex hx1, Marks.nil _⟩
    obtain ⟨cvs, vs, g1, g2, g3, hq⟩ := hresK_ok hR' h3' hv
    have hrun : (results fn a'.tmps).run P w' = .ok (if h : cvs.toArray.size = 1 then cvs.toArray[0] else .tuple cvs.toArray) w' := by
      rw [results_eq]
      rw [Array.mapM_eq_mapM_toList]
      have g1' : (List.toArray <$> fn.results.toList.mapM (resOf a'.tmps)).run P w' = .ok cvs.toArray w' := by
        rw [map_eq_pure_bind, rb g1]; rfl
      rw [rb g1']; rfl
    have hold : ∀ k, m.fix k → m'.fix k := fun k hk => m'.fix.sub k (by rw [k5, h1.old, hm0]; exact hk)
    obtain ⟨m'', hm''⟩ : ∃ m'' : M, m'' = { m' with w0 := m.w0, fix := m.fix } := ⟨_, rfl⟩
    have hx'' : M.ex m' m'' := by rw [hm'']; exact ⟨fun _ _ _ h => h, fun _ _ h => h⟩
    have hle : M.le m m'' := by
      rw [hm'']
      have hcom := h1.com; have hloc := h1.loc; have hres := h1.res; have hkeep := h1.keep
      rw [hm0] at hcom hloc hres hkeep
      refine M.le.mk' rfl rfl (fun b o v hc => ?_) (fun id l hl => ?_) ?_ (fun id hr => ?_)
      · show m'.com b o = _
        rw [k1]; exact hcom b o v hc
      · show m'.loc id = _
        rw [k2]; exact hloc id l hl
      · show m'.res = _
        rw [k3]; exact hres
      · show m'.loc id = _
        rw [k2]; exact hkeep id hr
    have hR'' : Rel m'' s' w' := by
      rw [hm''] at hx'' ⊢
      have he := h1.env
      have hfx := h1.fix
      rw [hm0] at he hfx
      refine ⟨⟨?_, ?_, ?_, fun k hk => ⟨(hR'.below.block k (hold k hk)).1, ?_⟩⟩, hR'.com, fun id ob l hi hl => (hR'.objs id ob l hi hl).ex hx'', fun id ob l hi hl => ⟨fun hf => (hR'.own id ob l hi hl).1 (hold _ hf), (hR'.own id ob l hi hl).2⟩, hR'.inj, hR'.fin⟩
      · rw [hR'.below.os, k4]; exact he.1
      · rw [hR'.below.tape, k4]; exact he.2.1
      · rw [hR'.below.output, k4]; exact he.2.2
      · rw [(hR'.below.block k (hold k hk)).2, k4]; exact (hfx k hk).2
    refine ⟨_, hrun, _, hret vs, s', m'', rfl, hle, hR'', Rep.ex ?_ hx'', hq⟩
    cases cvs with
    | nil =>
      cases vs with
      | nil => exact .tup [] #[] rfl (fun j x hj => by simp at hj)
      | cons _ _ => simp at g2
    | cons cv cvs =>
      cases vs with
      | nil => simp at g2
      | cons v vs =>
        cases cvs with
        | nil =>
          cases vs with
          | nil => have := g3 0 v rfl; exact this
          | cons _ _ => simp at g2
        | cons cv2 cvs =>
          cases vs with
          | nil => simp at g2
          | cons v2 vs =>
            have e : (if h : (cv :: cv2 :: cvs).toArray.size = 1 then (cv :: cv2 :: cvs).toArray[0] else Value.tuple (cv :: cv2 :: cvs).toArray) = .tuple (cv :: cv2 :: cvs).toArray := by
              rw [dif_neg (by simp)]
            rw [e]
            refine .tup (v :: v2 :: vs) _ (by simpa using g2) (fun j x hj => ?_)
            have := g3 j x hj
            simpa [List.getD, Array.getD_eq_getD_getElem?] using this
  rintro e a' w' ⟨m', env', s', h1, h2, h3, h4, h5, h6⟩
  cases e with
  | normal => exact fin h1 h2 h3 h6
  | ret => exact fin h1 h2 h3 h6
  | _ => exact h6.elim
/-- A literal's value, its places written out. -/
def vMk (pl : List (Nat × Nat)) (zs : List HV) (parts : List (Nat × HV)) : Option HV := (hfill (fun i => pl.toArray[i]?) zs parts).map .agg
def hBS (s : HS) (sz n : Nat) (zs : List HV) (parts : List (Nat × HV)) (K : HV → HS → Prop) : Prop :=
  match hfill (fun i => some (i * sz, sz)) zs parts with
  | some cs => hNew s (.cells cs) (fun id => .view id 0 sz n true) K
  | none => False
theorem HC_by {f : FuncId} {fn : Func} {args : List HV} {Q : HV → HS → Prop} {ann : Nat → Option (List Nat)} (hf : P.funcs[f]? = some fn)
    (h : match fn.body with | some c => hwp P ann false 1 c (hretQ P fn.results.toList Q) (args ++ List.replicate (fn.ntmps - args.length) (.lit undef)) s | none => False) : HC P f args s Q := by
  cases hb : fn.body with
  | none => rw [hb] at h; exact h.elim
  | some c => rw [hb] at h; exact HC_of hf hb h
/-- What is known in the end may be told otherwise. -/
theorem HC.up {f : FuncId} {args : List HV} {Q : HV → HS → Prop} (h : HC P f args s fun v s' => ∃ v' s'', UpL [v] s' [v'] s'' ∧ Q v' s'') : HC P f args s Q := by
  intro m w cargs hR hn ha
  refine (h m w cargs hR hn ha).mono ?_
  rintro e w' ⟨cv, v, s', m', h1, h2, h3, h4, v', s'', h5, h6⟩
  obtain ⟨m'', g1, g2, g3⟩ := h5 m' w' [cv] h3 ⟨rfl, fun j x hj => by cases j with | zero => simp at hj; subst hj; exact h4 | succ j => simp at hj⟩
  exact ⟨cv, v', s'', m'', h1, h2.trans g1, g2, g3.2 0 v' rfl, h6⟩
/-- So may the arguments. -/
theorem HC.upArgs {f : FuncId} {args args' : List HV} {s' : HS} {Q : HV → HS → Prop} (hu : UpL args s args' s') (h : HC P f args' s' Q) : HC P f args s Q := by
  intro m w cargs hR hn ha
  obtain ⟨m', g1, g2, g3, g4⟩ := hu m w cargs.toList hR ⟨by simpa using hn, fun j x hj => by have := ha j x hj; simpa [List.getD, Array.getD_eq_getD_getElem?] using this⟩
  refine (h m' w cargs g2 (by simpa using g3) (fun j x hj => by have := g4 j x hj; simpa [List.getD, Array.getD_eq_getD_getElem?] using this)).mono ?_
  rintro e w' ⟨cv, v, s'', m'', h1, h2, h3, h4, h5⟩
  exact ⟨cv, v, s'', m'', h1, g1.trans h2, h3, h4, h5⟩
theorem HC.weaken {f : FuncId} {args : List HV} {Q : HV → HS → Prop} (h : HC P f args s fun v s' => ∃ s'', HS.le s'' s' ∧ Q v s'') : HC P f args s Q :=
  HC.up (h.mono fun v s' ⟨s'', h1, h2⟩ => ⟨v, s'', UpL.le [v] h1, h2⟩)
/-- An object that is not written any more is a list. -/
theorem UpL.freeze {ys zs : List HV} {id off sz n : Nat} {full full' : Bool} {cs : List HV} (hff : full' = true → full = true) (hs : s id = some (.cells cs)) (hle : off + n * sz ≤ cs.length) :
    UpL (ys ++ .view id off sz n full :: zs) s (ys ++ .list sz n ((cs.drop off).take (n * sz)) full' :: zs) (s.del id) := by
  intro m w cvs hR hr
  have hmid := hr.2 ys.length (.view id off sz n full) (by simp)
  have other : ∀ {m' : M} {v' : HV}, M.le m m' → Rep m' v' (cvs.getD ys.length undef) → RepsL m' (ys ++ v' :: zs) cvs := by
    intro m' v' hm hv
    refine ⟨by have := hr.1; simpa using this, fun j x hj => ?_⟩
    by_cases hlt : j < ys.length
    · rw [List.getElem?_append_left hlt] at hj
      exact (hr.2 j x (by rw [List.getElem?_append_left hlt]; exact hj)).mono hm
    · by_cases heq : j = ys.length
      · subst heq
        rw [List.getElem?_append_right (Nat.le_refl _)] at hj
        simp at hj; subst hj; exact hv
      · rw [List.getElem?_append_right (by omega)] at hj
        obtain ⟨k, hk⟩ : ∃ k, j - ys.length = k + 1 := ⟨j - ys.length - 1, by omega⟩
        refine (hr.2 j x ?_).mono hm
        rw [hk] at hj
        rw [List.getElem?_append_right (by omega), hk]
        simpa using hj
  generalize cvs.getD ys.length undef = cv at hmid other
  cases hmid with
  | view0 _ _ _ _ a _ =>
    refine ⟨m, M.le.refl m, hR.weaken (le_del s id), other (M.le.refl m) ?_⟩
    simp only [Nat.zero_mul, List.take_zero]
    exact .list0 _ _ _ _ (fun _ => rfl)
  | view _ _ _ _ _ cap l hl hn hf hlim _ =>
    obtain ⟨h0, c, t, fr, h1, h2, h3, h4, h5⟩ := hR.objs _ _ _ hs hl
    have hnc := (hR.own _ _ _ hs hl).2
    have hm : M.le m { m with com := fun b o => if b = l.b then c[o]? else m.com b o } := by
      refine M.le.mk' rfl rfl (fun b o v hv => ?_) (fun _ _ h => h) rfl (fun _ _ => rfl)
      show (if b = l.b then c[o]? else m.com b o) = some v
      rw [if_neg (fun e => by rw [e, hnc] at hv; cases hv)]; exact hv
    refine ⟨_, hm, ⟨hR.below, fun b o v hv => ?_, fun k ob l' hk hl' => ?_, fun k ob l' hk hl' => ?_, fun a b oa ob la lb ha hb hla hlb hab => ?_, ?_⟩, other hm ?_⟩
    · simp only at hv
      split at hv
      · rename_i e; subst e
        simp only [World.cell?, h1]
        simpa using hv
      · exact hR.com b o v hv
    · simp only [HS.del] at hk
      split at hk
      · cases hk
      · exact (hR.objs _ _ _ hk hl').mono hm
    · simp only [HS.del] at hk
      split at hk
      · cases hk
      · rename_i hne
        obtain ⟨g1, g2⟩ := hR.own _ _ _ hk hl'
        refine ⟨g1, fun o => ?_⟩
        show (if l'.b = l.b then c[o]? else m.com l'.b o) = none
        rw [if_neg (fun e => hne (hR.inj k id _ _ l' l hk hs hl' hl e))]
        exact g2 o
    · simp only [HS.del] at ha hb
      split at ha
      · cases ha
      · split at hb
        · cases hb
        · exact hR.inj a b oa ob la lb ha hb hla hlb hab
    · obtain ⟨N, hN⟩ := hR.fin
      exact ⟨N, fun k hk => ⟨by simp only [HS.del]; split; rfl; exact (hN k hk).1, (hN k hk).2⟩⟩
    · refine .list sz n _ full' cap l.b (l.base + off) (fun j => c.getD (l.base + off + j) undef) hn (fun h => hf (hff h)) (by simp; omega) (fun x hx => h0 x (List.mem_of_mem_drop (List.mem_of_mem_take hx))) (fun j hj => ?_) (fun j x hj => ?_)
      · show (if l.b = l.b then c[l.base + off + j]? else _) = _
        rw [if_pos rfl]
        have hlt : l.base + off + j < c.size := by simp at hj; omega
        simp [Array.getD, hlt]
      · have hlt : j < n * sz := by have := (List.getElem?_eq_some_iff.1 hj).1; simp at this; omega
        rw [List.getElem?_take, if_pos hlt, List.getElem?_drop] at hj
        have := (h5 _ _ hj).mono hm
        rw [show l.base + (off + j) = l.base + off + j from by omega] at this
        exact this
end Go.Proofs.Ythfoanmokcepcaa.H
namespace Go.Proofs.Ythfoanmokcepcaa.H
open Go.RowKit Go.MapKept
set_option linter.unusedVariables false
set_option linter.unusedSimpArgs false
variable {P : Program} {s : HS}
/-- A slice that may be nil or not. -/
theorem HC.nilOr {f : FuncId} {pre post : List HV} {sz : Nat} {full : Bool} {Q : HV → HS → Prop} (h1 : HC P f (pre ++ .nils :: post) s Q) (h2 : HC P f (pre ++ .ne sz :: post) s Q) :
    HC P f (pre ++ .list sz 0 [] full :: post) s Q := by
  intro m w cargs hR hn ha
  have hmid := ha pre.length (.list sz 0 [] full) (by simp)
  have other : ∀ v', Rep m v' (cargs.getD pre.length undef) → ∀ (j : Nat) x, (pre ++ v' :: post)[j]? = some x → Rep m x (cargs.getD j undef) := by
    intro v' hv j x hj
    by_cases hlt : j < pre.length
    · rw [List.getElem?_append_left hlt] at hj
      exact ha j x (by rw [List.getElem?_append_left hlt]; exact hj)
    · by_cases heq : j = pre.length
      · subst heq
        rw [List.getElem?_append_right (Nat.le_refl _)] at hj
        simp at hj; subst hj; exact hv
      · rw [List.getElem?_append_right (by omega)] at hj
        obtain ⟨k, hk⟩ : ∃ k, j - pre.length = k + 1 := ⟨j - pre.length - 1, by omega⟩
        refine ha j x ?_
        rw [hk] at hj
        rw [List.getElem?_append_right (by omega), hk]
        simpa using hj
  generalize cargs.getD pre.length undef = cv at hmid other
  cases hmid with
  | list0 _ a cap _ hf =>
    cases a with
    | none => exact h1 m w cargs hR (by simpa using hn) (other _ (.nils _))
    | some a => exact h2 m w cargs hR (by simpa using hn) (other _ (.ne _ _ _))
  | list _ _ _ _ cap b o f hn' hf hlen ho hc hr => exact h2 m w cargs hR (by simpa using hn) (other _ (.ne _ _ _))
theorem set_at (s : HS) (i : Nat) (o : HObj) : (s.set i o) i = some o := by simp [HS.set]
theorem set_ne (s : HS) {i j : Nat} (o : HObj) (h : j ≠ i) : (s.set i o) j = s j := by simp [HS.set, h]
theorem del_ne (s : HS) {i j : Nat} (h : j ≠ i) : (s.del i) j = s j := by simp [HS.del, h]
theorem del_at (s : HS) (i : Nat) : (s.del i) i = none := by simp [HS.del]
theorem set_set (s : HS) (i : Nat) (o o' : HObj) : (s.set i o).set i o' = s.set i o' := by funext k; simp only [HS.set]; split <;> rfl
theorem le_refl' (s : HS) : HS.le s s := fun _ _ h => h
theorem HS.le.trans {a b c : HS} (h : HS.le a b) (k : HS.le b c) : HS.le a c := fun i o x => k i o (h i o x)
theorem le_set_new {s s' : HS} {i : Nat} (o : HObj) (hs : HS.le s' s) (h : s i = none) : HS.le s' (s.set i o) := by
  intro k ob hk
  have h1 := hs k ob hk
  simp only [HS.set]
  split
  · rename_i e; rw [e, h] at h1; cases h1
  · exact h1
def bl (l : List Int) : List HV := l.map fun b => .lit (.int .u8 b)
theorem bl_len (l : List Int) : (bl l).length = l.length := by simp [bl]
theorem ne_new {s : HS} {p id : Nat} {o : HObj} (hp : s p = some o) (hid : s id = none) : p ≠ id := by rintro rfl; rw [hid] at hp; cases hp
theorem hc_int (k : IntKind) (n : Int) : hcells (.lit (.int k n)) = some [.lit (.int k n)] := rfl
theorem hc_bool (b : Bool) : hcells (.lit (.bool b)) = some [.lit (.bool b)] := rfl
theorem hc_slice (a : Option Addr) (n c : Nat) : hcells (.lit (.slice a n c)) = some [.lit (.slice a n c)] := rfl
theorem hc_agg (cs : List HV) : hcells (.agg cs) = some cs := rfl
theorem hc_list (sz n : Nat) (cs : List HV) (f : Bool) : hcells (.list sz n cs f) = some [.list sz n cs f] := rfl
theorem hc_map (i : Nat) : hcells (.map i) = some [.map i] := rfl
theorem ho_int (k : IntKind) (n : Int) : hone (.lit (.int k n)) = true := rfl
theorem ho_bool (b : Bool) : hone (.lit (.bool b)) = true := rfl
theorem ho_slice (a : Option Addr) (n c : Nat) : hone (.lit (.slice a n c)) = true := rfl
theorem ho_list (sz n : Nat) (cs : List HV) (f : Bool) : hone (.list sz n cs f) = true := rfl
theorem ho_map (i : Nat) : hone (.map i) = true := rfl
theorem least {p : Nat → Prop} (h : ∃ n, p n) : ∃ n, p n ∧ ∀ k, p k → n ≤ k := by
  obtain ⟨n, hn⟩ := h
  induction n using Nat.strongRecOn with
  | ind n ih =>
    by_cases hk : ∃ k, k < n ∧ p k
    · obtain ⟨k, h1, h2⟩ := hk
      exact ih k h1 h2
    · exact ⟨n, hn, fun k hpk => Nat.le_of_not_lt fun hlt => hk ⟨k, hlt, hpk⟩⟩
theorem HLoop.ghostU {σ : Type} {F : List HV → HS → (List HV → HS → Prop) → Prop} {xs0 : List HV} {s0 : HS} (X : σ → List HV) (S : σ → HS → Prop) (μ : σ → Nat) (g0 : σ) (t : HS) (hu : UpL xs0 s0 (X g0) t) (h0 : S g0 t)
    (hstep : ∀ g s K, S g s → (∀ g' xs' s' s'', UpL xs' s' (X g') s'' → S g' s'' → μ g' < μ g → K xs' s') → F (X g) s K) : HLoop F xs0 s0 := by
  let R : List HV → HS → Nat → Prop := fun xs s n => ∃ g, X g = xs ∧ S g s ∧ μ g = n
  let m : List HV → HS → Nat := fun xs s => Classical.epsilon fun n => R xs s n ∧ ∀ k, R xs s k → n ≤ k
  have hm : ∀ g s, S g s → (∃ g', X g' = X g ∧ S g' s ∧ μ g' = m (X g) s) ∧ m (X g) s ≤ μ g := by
    intro g s hs
    have h : ∃ n, R (X g) s n := ⟨_, g, rfl, hs, rfl⟩
    have hc : R (X g) s (m (X g) s) ∧ ∀ k, R (X g) s k → m (X g) s ≤ k := Classical.epsilon_spec (least h)
    exact ⟨hc.1, hc.2 _ ⟨g, rfl, hs, rfl⟩⟩
  refine ⟨fun xs s => ∃ g, X g = xs ∧ S g s, m, ⟨_, t, hu, g0, rfl, h0⟩, ?_⟩
  rintro xs s ⟨g, rfl, hs⟩
  obtain ⟨⟨g1, h1, h2, h3⟩, -⟩ := hm g s hs
  rw [← h1]
  refine hstep g1 s _ h2 fun g' xs' s' s'' hu' hs' hlt => ⟨_, s'', hu', ⟨g', rfl, hs'⟩, ?_⟩
  exact Nat.lt_of_le_of_lt (hm g' s'' hs').2 (by rw [h1, ← h3]; exact hlt)
theorem HLoop.ghost {σ : Type} {F : List HV → HS → (List HV → HS → Prop) → Prop} {xs0 : List HV} {s0 : HS} (X : σ → List HV) (S : σ → HS → Prop) (μ : σ → Nat) (g0 : σ) (hu : xs0 = X g0) (h0 : S g0 s0)
    (hstep : ∀ g s K, S g s → (∀ g' xs' s', xs' = X g' → S g' s' → μ g' < μ g → K xs' s') → F (X g) s K) : HLoop F xs0 s0 :=
  HLoop.ghostU X S μ g0 s0 (by rw [hu]; exact UpL.refl _ _) h0 fun g s K hs hK => hstep g s K hs fun g' xs' s' e h1 h2 => hK g' xs' s' s' (by rw [e]; exact UpL.refl _ _) h1 h2
theorem le_set_free {b t : HS} {p : Nat} (o : HObj) (h : HS.le b t) (hp : b p = none) : HS.le b (t.set p o) := by
  intro k ob hk
  have hne : k ≠ p := by rintro rfl; rw [hp] at hk; cases hk
  rw [set_ne _ _ hne]
  exact h k ob hk
theorem le_del_free {b t : HS} {p : Nat} (h : HS.le b t) (hp : b p = none) : HS.le b (t.del p) := by
  intro k ob hk
  have hne : k ≠ p := by rintro rfl; rw [hp] at hk; cases hk
  rw [del_ne _ hne]
  exact h k ob hk
theorem none_of_le {b' b : HS} (h : HS.le b' b) {p : Nat} (hp : b p = none) : b' p = none := by
  cases e : b' p with
  | none => rfl
  | some o => rw [h p o e] at hp; cases hp
end Go.Proofs.Ythfoanmokcepcaa.H
namespace Go.Proofs.Ythfoanmokcepcaa.H
open Go.RowKit Go.MapKept
set_option linter.unusedVariables false
set_option linter.unusedSimpArgs false
variable {P : Program} {m m' : M} {s : HS} {w : World}
/-- What is left of a view of a block that is frozen. -/
def phi (id : Nat) (cs : List HV) (i off sz n : Nat) : Option HV := if i = id ∧ off + n * sz ≤ cs.length then some (.list sz n ((cs.drop off).take (n * sz)) false) else none
def frz0 (id : Nat) (cs : List HV) : HV → HV
  | .view i o z n f => (phi id cs i o z n).getD (.view i o z n f)
  | x => x
def frz1 (id : Nat) (cs : List HV) : HV → HV
  | .agg l => .agg (l.map (frz0 id cs))
  | x => frz0 id cs x
def frz2 (id : Nat) (cs : List HV) : HV → HV
  | .tup l => .tup (l.map (frz1 id cs))
  | x => frz1 id cs x
def frzO (id : Nat) (cs : List HV) : HObj → HObj
  | .cells l => .cells (l.map (frz0 id cs))
  | .map d f n => .map d (fun k => (f k).map (frz1 id cs)) n
  | .tok r env st => .tok r env st
  | .root l => .root l
  | .mapx d es cl => .mapx d es cl
  | .iter mid since seen => .iter mid since seen
theorem hone_frz0 {id : Nat} {cs : List HV} (x : HV) : hone (frz0 id cs x) = hone x := by
  cases x <;> try rfl
  rename_i i o z n f
  simp only [frz0, phi]
  split <;> rfl
theorem ones_frz {id : Nat} {cs l : List HV} (h : Ones l) : Ones (l.map (frz0 id cs)) := by
  intro x hx
  obtain ⟨y, hy, rfl⟩ := List.mem_map.1 hx
  rw [hone_frz0]
  exact h y hy
theorem frz0_rep {id : Nat} {cs : List HV} (hm : M.le m m') (hφ : ∀ off sz n full v, off + n * sz ≤ cs.length → Rep m (.view id off sz n full) v → Rep m' (.list sz n ((cs.drop off).take (n * sz)) false) v) {x : HV} {v : Value} (h : Rep m x v) :
    Rep m' (frz0 id cs x) v := by
  cases x with
  | view i o z n f =>
    simp only [frz0, phi]
    split
    · rename_i hc
      obtain ⟨rfl, hc⟩ := hc
      exact hφ _ _ _ _ _ hc h
    · exact h.mono hm
  | _ => exact h.mono hm
theorem frz1_rep {id : Nat} {cs : List HV} (hm : M.le m m') (hφ : ∀ off sz n full v, off + n * sz ≤ cs.length → Rep m (.view id off sz n full) v → Rep m' (.list sz n ((cs.drop off).take (n * sz)) false) v) {x : HV} {v : Value} (h : Rep m x v) :
    Rep m' (frz1 id cs x) v := by
  cases x with
  | agg l =>
    cases h with
    | agg l vs ho hs hr =>
      refine .agg _ vs (ones_frz ho) (by simpa using hs) (fun j x hj => ?_)
      rw [List.getElem?_map] at hj
      cases hy : l[j]? with
      | none => rw [hy] at hj; cases hj
      | some y => rw [hy] at hj; cases hj; exact frz0_rep hm hφ (hr j y hy)
  | _ => exact frz0_rep hm hφ h
theorem frz2_rep {id : Nat} {cs : List HV} (hm : M.le m m') (hφ : ∀ off sz n full v, off + n * sz ≤ cs.length → Rep m (.view id off sz n full) v → Rep m' (.list sz n ((cs.drop off).take (n * sz)) false) v) {x : HV} {v : Value} (h : Rep m x v) :
    Rep m' (frz2 id cs x) v := by
  cases x with
  | tup l =>
    cases h with
    | tup l vs hs hr =>
      refine .tup _ vs (by simpa using hs) (fun j x hj => ?_)
      rw [List.getElem?_map] at hj
      cases hy : l[j]? with
      | none => rw [hy] at hj; cases hj
      | some y => rw [hy] at hj; cases hj; exact frz1_rep hm hφ (hr j y hy)
  | _ => exact frz1_rep hm hφ h
theorem frzO_at {id : Nat} {cs : List HV} (hm : M.le m m') (hφ : ∀ off sz n full v, off + n * sz ≤ cs.length → Rep m (.view id off sz n full) v → Rep m' (.list sz n ((cs.drop off).take (n * sz)) false) v) {ob : HObj} {l : Loc} (h : ObjAt m ob l w) :
    ObjAt m' (frzO id cs ob) l w := by
  cases ob with
  | cells xs =>
    obtain ⟨h0, c, t, fr, h1, h2, h3, h4, h5⟩ := h
    refine ⟨ones_frz h0, c, t, fr, h1, h2, by simpa using h3, h4, fun j x hj => ?_⟩
    rw [List.getElem?_map] at hj
    cases hy : xs[j]? with
    | none => rw [hy] at hj; cases hj
    | some y => rw [hy] at hj; cases hj; exact frz0_rep hm hφ (h5 j y hy)
  | map d f n =>
    obtain ⟨es, cl, h1, h2, h3, h6, h4, h5⟩ := h
    refine ⟨es, cl, h1, h2, h3, h6, fun k x hk => ?_, fun e he => by show ((f e.key).map _).isSome = true; rw [Option.isSome_map]; exact h5 e he⟩
    simp only at hk
    cases hy : f k with
    | none => rw [hy] at hk; cases hk
    | some y => rw [hy] at hk; cases hk; exact (h4 k y hy).imp fun e he => ⟨he.1, he.2.1, frz1_rep hm hφ he.2.2⟩
  | tok r env st => exact h.mono hm
  | root l => exact h.mono hm
  | mapx d es cl => exact h.mono hm
  | iter mid since seen => exact h.mono hm
/-- An object that is not written any more. -/
theorem freeze_m {s' : HS} {id : Nat} {cs : List HV} (hR : Rel m s w) (hs : s id = some (.cells cs)) (h' : ∀ k o, s' k = some o → k ≠ id ∧ ∃ o0, s k = some o0 ∧ (o = o0 ∨ o = frzO id cs o0)) :
    ∃ m', M.le m m' ∧ Rel m' s' w ∧ ∀ off sz n full v, off + n * sz ≤ cs.length → Rep m (.view id off sz n full) v → Rep m' (.list sz n ((cs.drop off).take (n * sz)) false) v := by
  have hfin : ∃ N, ∀ k, N ≤ k → s' k = none ∧ m.loc k = none ∧ m.res k = false := by
    obtain ⟨N, hN⟩ := hR.fin
    refine ⟨N, fun k hk => ⟨?_, (hN k hk).2⟩⟩
    cases hy : s' k with
    | none => rfl
    | some o =>
      obtain ⟨-, o0, h0, -⟩ := h' k o hy
      rw [(hN k hk).1] at h0
      cases h0
  cases hloc : m.loc id with
  | none =>
    have hφ : ∀ off sz n full v, off + n * sz ≤ cs.length → Rep m (.view id off sz n full) v → Rep m (.list sz n ((cs.drop off).take (n * sz)) false) v := by
      intro off sz n full v _ h
      cases h with
      | view0 _ _ _ _ a _ => simp only [Nat.zero_mul, List.take_zero]; exact .list0 _ _ _ _ (fun h => by cases h)
      | view _ _ _ _ _ cap l hl => rw [hloc] at hl; cases hl
    refine ⟨m, M.le.refl m, ⟨hR.below, hR.com, fun k ob l hk hl => ?_, fun k ob l hk hl => ?_, fun a b oa ob la lb ha hb hla hlb hab => ?_, hfin⟩, hφ⟩
    · obtain ⟨-, o0, h0, rfl | rfl⟩ := h' k ob hk
      · exact hR.objs _ _ _ h0 hl
      · exact frzO_at (M.le.refl m) hφ (hR.objs _ _ _ h0 hl)
    · obtain ⟨-, o0, h0, -⟩ := h' k ob hk
      exact hR.own _ _ _ h0 hl
    · obtain ⟨-, o0, h0, -⟩ := h' a oa ha
      obtain ⟨-, o1, h1, -⟩ := h' b ob hb
      exact hR.inj a b o0 o1 la lb h0 h1 hla hlb hab
  | some l =>
    obtain ⟨h0, c, t, fr, h1, h2, h3, h4, h5⟩ := hR.objs _ _ _ hs hloc
    have hnc := (hR.own _ _ _ hs hloc).2
    have hm : M.le m { m with com := fun b o => if b = l.b then c[o]? else m.com b o } := by
      refine M.le.mk' rfl rfl (fun b o v hv => ?_) (fun _ _ h => h) rfl (fun _ _ => rfl)
      show (if b = l.b then c[o]? else m.com b o) = some v
      rw [if_neg (fun e => by rw [e, hnc] at hv; cases hv)]; exact hv
    have hφ : ∀ off sz n full v, off + n * sz ≤ cs.length → Rep m (.view id off sz n full) v → Rep { m with com := fun b o => if b = l.b then c[o]? else m.com b o } (.list sz n ((cs.drop off).take (n * sz)) false) v := by
      intro off sz n full v hle h
      cases h with
      | view0 _ _ _ _ a _ => simp only [Nat.zero_mul, List.take_zero]; exact .list0 _ _ _ _ (fun h => by cases h)
      | view _ _ _ _ _ cap l' hl hn hf hlim _ =>
        obtain rfl : l = l' := by rw [hloc] at hl; cases hl; rfl
        refine .list sz n _ false cap l.b (l.base + off) (fun j => c.getD (l.base + off + j) undef) hn (fun h => by cases h) (by simp; omega) (fun x hx => h0 x (List.mem_of_mem_drop (List.mem_of_mem_take hx))) (fun j hj => ?_) (fun j x hj => ?_)
        · show (if l.b = l.b then c[l.base + off + j]? else _) = _
          rw [if_pos rfl]
          have hlt : l.base + off + j < c.size := by simp at hj; omega
          simp [Array.getD, hlt]
        · have hlt : j < n * sz := by have := (List.getElem?_eq_some_iff.1 hj).1; simp at this; omega
          rw [List.getElem?_take, if_pos hlt, List.getElem?_drop] at hj
          have := (h5 _ _ hj).mono hm
          rw [show l.base + (off + j) = l.base + off + j from by omega] at this
          exact this
    refine ⟨_, hm, ⟨hR.below, fun b o v hv => ?_, fun k ob l' hk hl' => ?_, fun k ob l' hk hl' => ?_, fun a b oa ob la lb ha hb hla hlb hab => ?_, hfin⟩, hφ⟩
    · simp only at hv
      split at hv
      · rename_i e; subst e
        simp only [World.cell?, h1]
        simpa using hv
      · exact hR.com b o v hv
    · obtain ⟨-, o0, h0, rfl | rfl⟩ := h' k ob hk
      · exact (hR.objs _ _ _ h0 hl').mono hm
      · exact frzO_at hm hφ (hR.objs _ _ _ h0 hl')
    · obtain ⟨hne, o0, hy, -⟩ := h' k ob hk
      obtain ⟨g1, g2⟩ := hR.own _ _ _ hy hl'
      refine ⟨g1, fun o => ?_⟩
      show (if l'.b = l.b then c[o]? else m.com l'.b o) = none
      rw [if_neg (fun e => hne (hR.inj k id _ _ l' l hy hs hl' hloc e))]
      exact g2 o
    · obtain ⟨-, o0, h0, -⟩ := h' a oa ha
      obtain ⟨-, o1, h1, -⟩ := h' b ob hb
      exact hR.inj a b o0 o1 la lb h0 h1 hla hlb hab
theorem UpL.frzG {xs : List HV} {s' : HS} {id : Nat} {cs : List HV} (hs : s id = some (.cells cs)) (h' : ∀ k o, s' k = some o → k ≠ id ∧ ∃ o0, s k = some o0 ∧ (o = o0 ∨ o = frzO id cs o0)) : UpL xs s (xs.map (frz2 id cs)) s' := by
  intro m w cvs hR hr
  obtain ⟨m', h1, h2, h3⟩ := freeze_m hR hs h'
  refine ⟨m', h1, h2, by simpa using hr.1, fun j x hj => ?_⟩
  rw [List.getElem?_map] at hj
  cases hy : xs[j]? with
  | none => rw [hy] at hj; cases hj
  | some y => rw [hy] at hj; cases hj; exact frz2_rep h1 h3 (hr.2 j y hy)
/-- It is a list in these values from here on; what of the state is told stays as it is. -/
theorem UpL.frzD {xs : List HV} {s' : HS} {id : Nat} {cs : List HV} (hs : s id = some (.cells cs)) (hle : HS.le s' s) (hid : s' id = none) : UpL xs s (xs.map (frz2 id cs)) s' :=
  UpL.frzG hs fun k o hk => ⟨(by rintro rfl; rw [hid] at hk; cases hk), o, hle k o hk, Or.inl rfl⟩
/-- A nil is a row of none, among other values. -/
theorem UpL.nilAt (sz : Nat) {ys zs : List HV} {t : HS} : UpL (ys ++ .lit (.slice none 0 0) :: zs) t (ys ++ .list sz 0 [] false :: zs) t := by
  intro m w cvs h1 h2
  refine ⟨m, M.le.refl m, h1, by have := h2.1; simpa using this, fun j x hj => ?_⟩
  by_cases hlt : j < ys.length
  · rw [List.getElem?_append_left hlt] at hj
    exact h2.2 j x (by rw [List.getElem?_append_left hlt]; exact hj)
  · by_cases heq : j = ys.length
    · subst heq
      rw [List.getElem?_append_right (Nat.le_refl _)] at hj
      simp at hj; subst hj
      have := h2.2 ys.length (.lit (.slice none 0 0)) (by simp)
      generalize cvs.getD ys.length undef = cv at this ⊢
      cases this
      exact .list0 _ _ _ _ (fun h => by cases h)
    · rw [List.getElem?_append_right (by omega)] at hj
      obtain ⟨k, hk⟩ : ∃ k, j - ys.length = k + 1 := ⟨j - ys.length - 1, by omega⟩
      refine h2.2 j x ?_
      rw [hk] at hj
      rw [List.getElem?_append_right (by omega), hk]
      simpa using hj
end Go.Proofs.Ythfoanmokcepcaa.H
namespace Go.Proofs.Ythfoanmokcepcaa.H
open Go.RowKit Go.MapKept
set_option linter.unusedVariables false
set_option linter.unusedSimpArgs false
variable {P : Program} {s : HS}
theorem w64 {x : Int} (h : -9223372036854775808 ≤ x) (h' : x < 9223372036854775808) : IntKind.i64.wrap x = x := by rw [IntKind.wrap_i64]; omega
theorem take_succ' {α : Type} (z : α) (l : List α) {i : Nat} (h : i < l.length) : l.take (i + 1) = l.take i ++ [l.getD i z] := by
  rw [List.take_succ_eq_append_getElem h]
  simp [List.getD, h]
theorem drop_cons' {α : Type} (z : α) (l : List α) {i : Nat} (h : i < l.length) : l.drop i = l.getD i z :: l.drop (i + 1) := by
  rw [List.drop_eq_getElem_cons h]
  simp [List.getD, h]
abbrev nilV : HV := .lit (.slice none 0 0)
/-- Rows of values of some cells. -/
def rows {α : Type} (enc : α → List HV) (l : List α) : List HV := l.flatMap enc
theorem rows_cons {α : Type} (enc : α → List HV) (x : α) (l : List α) : rows enc (x :: l) = enc x ++ rows enc l := by simp [rows]
theorem rows_app {α : Type} (enc : α → List HV) (a b : List α) : rows enc (a ++ b) = rows enc a ++ rows enc b := by simp [rows]
theorem rows_one {α : Type} (enc : α → List HV) (x : α) : rows enc [x] = enc x := by simp [rows]
theorem rows_len {α : Type} {enc : α → List HV} {sz : Nat} (h : ∀ x, (enc x).length = sz) (l : List α) : (rows enc l).length = l.length * sz := by
  induction l with
  | nil => simp [rows]
  | cons x r ih => rw [rows_cons, List.length_append, ih, h, List.length_cons, Nat.add_mul]; omega
theorem rows_drop {α : Type} {enc : α → List HV} {sz : Nat} (h : ∀ x, (enc x).length = sz) : ∀ (l : List α) (i : Nat), (rows enc l).drop (i * sz) = rows enc (l.drop i)
  | l, 0 => by simp
  | [], i + 1 => by simp [rows]
  | x :: l, i + 1 => by
    rw [rows_cons, List.drop_append, Nat.add_mul, Nat.one_mul, h, List.drop_of_length_le (by rw [h]; omega), List.nil_append, Nat.add_sub_cancel, rows_drop h l i, List.drop_succ_cons]
theorem rows_take {α : Type} {enc : α → List HV} {sz : Nat} (h : ∀ x, (enc x).length = sz) : ∀ (l : List α) (i : Nat), (rows enc l).take (i * sz) = rows enc (l.take i)
  | l, 0 => by simp [rows]
  | [], i + 1 => by simp [rows]
  | x :: l, i + 1 => by
    rw [rows_cons, List.take_append, Nat.add_mul, Nat.one_mul, h, List.take_of_length_le (by rw [h]; omega), Nat.add_sub_cancel, rows_take h l i, List.take_succ_cons, rows_cons]
theorem rows_idx {α : Type} {enc : α → List HV} {sz : Nat} (h : ∀ x, (enc x).length = sz) (z : α) (l : List α) (i : Nat) (hi : i < l.length) : ((rows enc l).drop (i * sz)).take sz = enc (l.getD i z) := by
  rw [rows_drop h, drop_cons' z l hi, rows_cons, List.take_append, List.take_of_length_le (by rw [h]; exact Nat.le_refl _), h, Nat.sub_self, List.take_zero, List.append_nil]
theorem rows_all {α : Type} {enc : α → List HV} {sz : Nat} (h : ∀ x, (enc x).length = sz) (l : List α) : (rows enc l).take (l.length * sz) = rows enc l := List.take_of_length_le (by rw [rows_len h]; exact Nat.le_refl _)
theorem rows_ones {α : Type} {enc : α → List HV} (h : ∀ x, ∀ y ∈ enc x, hone y = true) (l : List α) : ∀ y ∈ rows enc l, hone y = true := by
  intro y hy
  obtain ⟨x, _, hx⟩ := List.mem_flatMap.1 hy
  exact h x y hx
def rowL {α : Type} (enc : α → List HV) (sz : Nat) (l : List α) : HV := .list sz l.length (rows enc l) false
theorem idx_rowL {α : Type} {enc : α → List HV} {sz : Nat} (h : ∀ x, (enc x).length = sz) (z : α) (l : List α) {i : Nat} (k : IntKind) (hi : i < l.length) : vIdx sz (rowL enc sz l) (.lit (.int k i)) = some (.elt (enc (l.getD i z)) 0) := by
  have h1 : (i : Int) < (l.length : Int) := by omega
  simp [vIdx, rowL, h1, rows_idx h z l i hi]
theorem slice_rowL {α : Type} {enc : α → List HV} {sz : Nat} (h : ∀ x, (enc x).length = sz) (l : List α) {lo hi : Nat} (k : IntKind) (hi' : hi ≤ l.length) (hlo : lo ≤ hi) :
    vSlice sz (rowL enc sz l) (some (.lit (.int k lo))) (some (.lit (.int k hi))) none = some (rowL enc sz ((l.take hi).drop lo)) := by
  have h1 : (lo : Int) ≤ hi := by omega
  have h2 : (hi : Int) ≤ (l.length : Int) := by omega
  have e : hi - lo = ((l.take hi).drop lo).length := by simp; omega
  have e2 : ((rows enc l).drop (lo * sz)).take ((hi - lo) * sz) = rows enc ((l.take hi).drop lo) := by
    rw [rows_drop h, rows_take h, List.take_drop, show lo + (hi - lo) = hi by omega]
  rw [e] at e2
  simp only [vSlice, rowL, cutAt, intAt, if_true, Option.map_some, h1, h2, true_and, Int.natCast_nonneg, Int.toNat_natCast, e, e2, Option.isNone_some, Option.isNone_none, Bool.false_eq_true, false_implies, and_self, Bool.false_and, Bool.or_self]
theorem slice_rowL_hi {α : Type} {enc : α → List HV} {sz : Nat} (h : ∀ x, (enc x).length = sz) (l : List α) {hi : Nat} (k : IntKind) (hi' : hi ≤ l.length) :
    vSlice sz (rowL enc sz l) none (some (.lit (.int k hi))) none = some (rowL enc sz (l.take hi)) := slice_rowL h l (lo := 0) k hi' (Nat.zero_le _)
theorem slice_rowL_lo {α : Type} {enc : α → List HV} {sz : Nat} (h : ∀ x, (enc x).length = sz) (l : List α) {lo : Nat} (k : IntKind) (hlo : lo ≤ l.length) :
    vSlice sz (rowL enc sz l) (some (.lit (.int k lo))) none none = some (rowL enc sz (l.drop lo)) := by
  have e2 : ((rows enc l).drop (lo * sz)).take ((l.length - lo) * sz) = rows enc (l.drop lo) := by
    rw [rows_drop h, show l.length - lo = (l.drop lo).length by simp, rows_all h]
  have h1 : (lo : Int) ≤ (l.length : Int) := by omega
  simp only [vSlice, rowL, cutAt, intAt, if_true, Option.map_some, h1, true_and, Int.natCast_nonneg, Int.toNat_natCast, e2, Option.isNone_none, Option.isNone_some, and_self, Bool.false_and, Bool.or_self, Int.le_refl, implies_true, List.length_drop]
theorem load_elt (s : HS) (cs : List HV) (n : Nat) (h : cs.length = n) : vLoad s (.elt cs 0) n true = some (.agg cs) := by
  subst h
  simp [vLoad, takeCells]
theorem load_elt1 (s : HS) (cs : List HV) (off n : Nat) : vLoad s (.elt cs off) n false = cs[off]? := rfl
theorem HC.frzD {f : FuncId} {args : List HV} {Q : HV → HS → Prop} {id : Nat} {cs : List HV} {s' : HS} (hs : s id = some (.cells cs)) (hle : HS.le s' s) (hid : s' id = none) (h : HC P f (args.map (frz2 id cs)) s' Q) : HC P f args s Q := HC.upArgs (UpL.frzD hs hle hid) h
/-- Where two roads meet: what is known there. -/
theorem Join.of {A : (List HV → HS → Prop) → Prop} {B : List HV → HS → Prop} (R : List HV → HS → Prop) (h1 : ∀ xs s, R xs s → B xs s) (h2 : ∀ K : List HV → HS → Prop, (∀ xs s, R xs s → K xs s) → A K) : Join A B := h2 B h1
theorem JoinU.of {A : (List HV → HS → Prop) → Prop} {B : List HV → HS → Prop} (R : List HV → HS → Prop) (h1 : ∀ xs s, R xs s → B xs s) (h2 : ∀ K : List HV → HS → Prop, (∀ xs s xs' s', UpL xs s xs' s' → R xs' s' → K xs s) → A K) : JoinU A B :=
  h2 (fun xs s => ∃ xs' s', UpL xs s xs' s' ∧ B xs' s') fun xs s xs' s' hu hr => ⟨xs', s', hu, h1 _ _ hr⟩
def accId : HV → Option Nat
  | .view q _ _ _ _ => some q
  | _ => none
/-- A row that grows: nil, or an object of its own. -/
def Acc (b t : HS) (sz : Nat) (A : HV) (n : Nat) (cs : List HV) : Prop :=
  (A = nilV ∧ cs = [] ∧ n = 0) ∨ ∃ q f, b q = none ∧ A = .view q 0 sz n f ∧ t q = some (.cells cs) ∧ cs.length = n * sz ∧ n ≠ 0
theorem Acc.nil (b t : HS) (sz : Nat) : Acc b t sz nilV 0 [] := .inl ⟨rfl, rfl, rfl⟩
theorem Acc.keep {b t t' : HS} {sz : Nat} {A : HV} {n : Nat} {cs : List HV} (h : Acc b t sz A n cs) (hk : ∀ q ob, accId A = some q → t q = some ob → t' q = some ob) : Acc b t' sz A n cs := by
  rcases h with h | ⟨q, f, h1, rfl, h3, h4⟩
  · exact .inl h
  · exact .inr ⟨q, f, h1, rfl, hk _ _ rfl h3, h4⟩
theorem Acc.one {b t : HS} {sz : Nat} {A : HV} {n : Nat} {cs : List HV} (h : Acc b t sz A n cs) : hone A = true := by
  rcases h with ⟨rfl, -⟩ | ⟨q, f, -, rfl, -⟩ <;> rfl
theorem Acc.hc {b t : HS} {sz : Nat} {A : HV} {n : Nat} {cs : List HV} (h : Acc b t sz A n cs) : hcells A = some [A] := by
  rcases h with ⟨rfl, -⟩ | ⟨q, f, -, rfl, -⟩ <;> rfl
theorem Acc.len {b t : HS} {sz : Nat} {A : HV} {n : Nat} {cs : List HV} (h : Acc b t sz A n cs) (e : Nat) (s : HS) : vLenT (some (.slice e)) s A = some (.lit (.int .i64 n)) := by
  rcases h with ⟨rfl, -, rfl⟩ | ⟨q, f, -, rfl, -⟩ <;> rfl
theorem Acc.free {b t : HS} {sz : Nat} {A : HV} {n : Nat} {cs : List HV} (h : Acc b t sz A n cs) {q : Nat} (hq : accId A = some q) : b q = none ∧ t q = some (.cells cs) := by
  rcases h with ⟨rfl, -, rfl⟩ | ⟨q', f, h1, rfl, h3, -⟩
  · cases hq
  · cases hq; exact ⟨h1, h3⟩
/-- Something new, elsewhere. -/
theorem Acc.new {b t : HS} {sz : Nat} {A : HV} {n : Nat} {cs : List HV} (h : Acc b t sz A n cs) {X : Nat} (o : HObj) (hX : t X = none) : Acc b (t.set X o) sz A n cs :=
  h.keep fun q ob _ hq => by rw [set_ne _ _ (ne_new hq hX)]; exact hq
theorem Acc.put {b t : HS} {sz : Nat} {A : HV} {n : Nat} {cs : List HV} (h : Acc b t sz A n cs) {X : Nat} (o : HObj) (hX : accId A ≠ some X) : Acc b (t.set X o) sz A n cs :=
  h.keep fun q ob hq hq2 => by rw [set_ne _ _ (by rintro rfl; exact hX hq)]; exact hq2
theorem Acc.app {b t : HS} {sz by_ : Nat} {A : HV} {n : Nat} {cs : List HV} {K : HV → HS → Prop} (h : Acc b t sz A n cs) (hb : HS.le b t) {x : HV} {xs : List HV} {k : Nat} (hx : lcells t sz x = some xs) (hk : llen x = k) (hl : xs.length = k * sz)
    (hroom : room (n + k) by_)
    (hK : ∀ A' t', Acc b t' sz A' (n + k) (cs ++ xs) → HS.le b t' → (∀ q ob, accId A ≠ some q → t q = some ob → t' q = some ob ∧ accId A' ≠ some q) → K A' t') : hAppend t sz by_ A x K := by
  unfold hAppend
  rw [hx]
  simp only [hk]
  rcases h with ⟨rfl, rfl, rfl⟩ | ⟨q, f, h1, rfl, h3, h4, h5⟩
  · simp only [isNilS, beq_self_eq_true, Bool.and_self, if_true]
    split
    · rename_i h0
      subst h0
      have : xs = [] := List.eq_nil_of_length_eq_zero (by rw [hl]; omega)
      subst this
      exact hK _ _ (.inl ⟨rfl, rfl, rfl⟩) hb fun q ob _ hq => ⟨hq, by rintro ⟨⟩⟩
    · rename_i h0
      refine ⟨by rw [Nat.zero_add] at hroom; exact hroom, fun id hid => ?_⟩
      refine hK _ _ (.inr ⟨id, _, none_of_le hb hid, by rw [Nat.zero_add], by rw [set_at]; rfl, by rw [List.nil_append, Nat.zero_add]; exact hl, by omega⟩) (le_set_new _ hb hid) fun q ob _ hq => ?_
      have := ne_new hq hid
      exact ⟨by rw [set_ne _ _ this]; exact hq, by rintro ⟨⟩; exact this rfl⟩
  · simp only [h3]
    refine ⟨by trivial, by rw [h4]; omega, ?_⟩
    cases f with
    | true =>
      simp only [if_true]
      split
      · rename_i h0
        subst h0
        have : xs = [] := List.eq_nil_of_length_eq_zero (by rw [hl]; omega)
        subst this
        exact hK _ _ (.inr ⟨q, true, h1, rfl, by rw [List.append_nil]; exact h3, by rw [List.append_nil]; exact h4, h5⟩) hb fun k ob hk hk1 => ⟨hk1, hk⟩
      · refine ⟨hroom, fun id hid => ?_⟩
        have e1 : (cs.drop 0).take (n * sz) = cs := by rw [List.drop_zero]; exact List.take_of_length_le (by omega)
        rw [e1]
        refine hK _ _ (.inr ⟨id, _, none_of_le hb hid, rfl, by rw [set_at], by rw [List.length_append, h4, hl, Nat.add_mul], by omega⟩) (le_set_new _ hb hid) fun k ob hk hk1 => ?_
        have := ne_new hk1 hid
        exact ⟨by rw [set_ne _ _ this]; exact hk1, by rintro ⟨⟩; exact this rfl⟩
    | false =>
    simp only [Bool.false_eq_true, if_false]
    rw [if_pos (by rw [h4]; omega)]
    refine ⟨hroom, fun id hid => ?_⟩
    have hne := ne_new h3 hid
    refine hK _ _ (.inr ⟨id, _, none_of_le hb hid, rfl, by rw [set_at]; rfl, by rw [List.length_append, h4, hl, Nat.add_mul], by omega⟩) ?_ ?_
    · intro k ob hk
      have hkq : k ≠ q := by rintro rfl; rw [h1] at hk; cases hk
      have hk1 := hb k ob hk
      rw [set_ne _ _ (ne_new hk1 hid), del_ne _ hkq]
      exact hk1
    · intro k ob hk hk1
      have hkq : k ≠ q := by rintro rfl; exact hk rfl
      have := ne_new hk1 hid
      exact ⟨by rw [set_ne _ _ this, del_ne _ hkq]; exact hk1, by rintro ⟨⟩; exact this rfl⟩
/-- One more is put behind a row that grows. -/
theorem Acc.app1W {b t : HS} {sz by_ : Nat} {A : HV} {n : Nat} {cs zs : List HV} {W : HS → Prop} {K : HV → HS → Prop} (h : Acc b t sz A n cs) (hb : HS.le b t) {x : HV} {vs : List HV} (hx : hcells x = some vs) (hv : vs.length = sz) (hz : zs.length = sz)
    (hroom : room (n + 1) by_) (hW : ∀ id, t id = none → W (t.set id (.cells vs)))
    (hK : ∀ A' t', Acc b t' sz A' (n + 1) (cs ++ vs) → HS.le b t' → (∀ q ob, accId A ≠ some q → t q = some ob → t' q = some ob ∧ accId A' ≠ some q) → K A' t') : hBS t sz 1 zs [(0, x)] (fun v s => W s ∧ hAppend s sz by_ A v K) := by
  have hf : hfill (fun i => some (i * sz, sz)) zs [(0, x)] = some vs := by
    simp only [hfill, hx, Nat.zero_mul, Nat.zero_add, hv, hz, Nat.le_refl, and_self, if_true, List.take_zero, List.nil_append]
    rw [List.drop_of_length_le (by omega), List.append_nil]
  unfold hBS
  rw [hf]
  intro id hid
  refine ⟨hW id hid, ?_⟩
  refine (h.new _ hid).app (le_set_new _ hb hid) (xs := vs) (k := 1) ?_ rfl (by omega) hroom ?_
  · simp [lcells, set_at, hv, List.take_of_length_le]
  · intro A' t' h1 h2 h3
    exact hK A' t' h1 h2 fun q ob hq hq2 => h3 q ob hq (by rw [set_ne _ _ (ne_new hq2 hid)]; exact hq2)
theorem Acc.app1 {b t : HS} {sz by_ : Nat} {A : HV} {n : Nat} {cs zs : List HV} {K : HV → HS → Prop} (h : Acc b t sz A n cs) (hb : HS.le b t) {x : HV} {vs : List HV} (hx : hcells x = some vs) (hv : vs.length = sz) (hz : zs.length = sz)
    (hroom : room (n + 1) by_)
    (hK : ∀ A' t', Acc b t' sz A' (n + 1) (cs ++ vs) → HS.le b t' → (∀ q ob, accId A ≠ some q → t q = some ob → t' q = some ob ∧ accId A' ≠ some q) → K A' t') : hBS t sz 1 zs [(0, x)] (fun v s => hAppend s sz by_ A v K) := by
  have := h.app1W (W := fun _ => True) (K := K) (zs := zs) hb hx hv hz hroom (fun _ _ => trivial) hK
  unfold hBS at this ⊢
  split
  · rename_i cs' h'
    rw [h'] at this
    exact fun id hid => (this id hid).2
  · rename_i h'
    rw [h'] at this
    exact this
def accV (sz n : Nat) (cs : List HV) : HV := if n = 0 then nilV else .list sz n cs false
theorem Acc.up {b t : HS} {sz : Nat} {A : HV} {n : Nat} {cs : List HV} (h : Acc b t sz A n cs) (hb : HS.le b t) : UpL [A] t [accV sz n cs] b := by
  rcases h with ⟨rfl, rfl, rfl⟩ | ⟨q, f, h1, rfl, h3, h4, h5⟩
  · exact UpL.le _ hb
  · have hu := UpL.frzD (xs := [.view q 0 sz n f]) h3 hb h1
    have : (cs.take (n * sz)) = cs := List.take_of_length_le (by omega)
    simpa [frz2, frz1, frz0, phi, accV, h5, h4, this] using hu
/-- Among other results. -/
theorem Acc.upT {b t : HS} {sz : Nat} {A : HV} {n : Nat} {cs : List HV} (h : Acc b t sz A n cs) (hb : HS.le b t) (ys zs : List HV) (hy : ∀ q cs, ys.map (frz1 q cs) = ys) (hz : ∀ q cs, zs.map (frz1 q cs) = zs) :
    UpL [.tup (ys ++ A :: zs)] t [.tup (ys ++ accV sz n cs :: zs)] b := by
  rcases h with ⟨rfl, rfl, rfl⟩ | ⟨q, f, h1, rfl, h3, h4, h5⟩
  · exact UpL.le _ hb
  · have hu := UpL.frzD (xs := [.tup (ys ++ .view q 0 sz n f :: zs)]) h3 hb h1
    have : (cs.take (n * sz)) = cs := List.take_of_length_le (by omega)
    simpa [frz2, frz1, frz0, phi, accV, h5, h4, this, hy, hz] using hu
theorem Acc.upAtL {b t : HS} {sz : Nat} {A : HV} {n : Nat} {cs : List HV} (h : Acc b t sz A n cs) (hb : HS.le b t) (ys zs : List HV) (hy : ∀ q cs, ys.map (frz2 q cs) = ys) (hz : ∀ q cs, zs.map (frz2 q cs) = zs) :
    UpL (ys ++ A :: zs) t (ys ++ .list sz n cs false :: zs) b := by
  rcases h with ⟨rfl, rfl, rfl⟩ | ⟨q, f, h1, rfl, h3, h4, h5⟩
  · exact (UpL.nilAt sz).trans (UpL.le _ hb)
  · have hu := UpL.frzD (xs := ys ++ .view q 0 sz n f :: zs) h3 hb h1
    have : (cs.take (n * sz)) = cs := List.take_of_length_le (by omega)
    simpa [frz2, frz1, frz0, phi, h4, this, hy, hz] using hu
theorem Acc.cells {b t : HS} {sz : Nat} {A : HV} {n : Nat} {cs : List HV} (h : Acc b t sz A n cs) : lcells t sz A = some cs := by
  rcases h with ⟨rfl, rfl, rfl⟩ | ⟨q, f, h1, rfl, h3, h4, h5⟩
  · rfl
  · simp [lcells, h3, h4, List.take_of_length_le]
theorem Acc.llen {b t : HS} {sz : Nat} {A : HV} {n : Nat} {cs : List HV} (h : Acc b t sz A n cs) : llen A = n := by
  rcases h with ⟨rfl, rfl, rfl⟩ | ⟨q, f, h1, rfl, h3, h4, h5⟩ <;> rfl
theorem Acc.le {b t t' : HS} {sz : Nat} {A : HV} {n : Nat} {cs : List HV} (h : Acc b t sz A n cs) (hle : HS.le t t') : Acc b t' sz A n cs := h.keep fun q ob _ hq => hle _ _ hq
theorem Acc.base {b b' t : HS} {sz : Nat} {A : HV} {n : Nat} {cs : List HV} (h : Acc b t sz A n cs) (hle : HS.le b' b) : Acc b' t sz A n cs := by
  rcases h with h | ⟨q, f, h1, rfl, h3, h4, h5⟩
  · exact .inl h
  · exact .inr ⟨q, f, none_of_le hle h1, rfl, h3, h4, h5⟩
end Go.Proofs.Ythfoanmokcepcaa.H
end
