/- The H layer, 2: operations that give a value: what they give, and that the model's operations give it. -/
import Derived.Test.YtecnfekcflfihaaH1
import Derived.WalkSpells
namespace Go.Proofs.Ytecnfekcflfihaa.H
open Go.RowKit Go.MapKept
set_option linter.unusedVariables false
set_option linter.unusedSimpArgs false

def hev (env : List HV) : Operand → HV
  | .tmp t => env.getD t (.lit undef)
  | .const v => .lit v
  | .global _ => .junk
  | .func f => .func (.func f) []
structure EnvRep (m : M) (env : List HV) (a : Act) : Prop where
  size : a.tmps.size = env.length
  rep : ∀ t x, env[t]? = some x → Rep m x (a.tmps.getD t undef)
  defers : a.defers = []
theorem EnvRep.eval {m : M} {env : List HV} {a : Act} (h : EnvRep m env a) (x : Operand) : Rep m (hev env x) (a.eval x) := by
  cases x with
  | tmp t =>
    simp only [hev, Act.eval, List.getD]
    cases hx : env[t]? with
    | none =>
      have : env.length ≤ t := List.getElem?_eq_none_iff.1 hx
      have h2 : a.tmps.getD t undef = undef := by simp [Array.getD, h.size, Nat.not_lt.2 this]
      rw [h2]; exact .lit _
    | some v => exact h.rep t v hx
  | const v => exact .lit v
  | global g => exact .junk _
  | func f => exact .func _ [] #[] rfl (fun j x hj => by simp at hj)
theorem EnvRep.mono {m m' : M} {env : List HV} {a : Act} (h : EnvRep m env a) (hm : M.le m m') : EnvRep m' env a := ⟨h.size, fun t x hx => (h.rep t x hx).mono hm, h.defers⟩
def hput (env : List HV) (d : Option Tmp) (v : HV) : List HV := match d with | some d => env.set d v | none => env
theorem EnvRep.put {m : M} {env : List HV} {a : Act} (h : EnvRep m env a) {v : HV} {cv : Value} (hv : Rep m v cv) (d : Option Tmp) : EnvRep m (hput env d v) (a.put d cv) := by
  cases d with
  | none => exact h
  | some d =>
    refine ⟨by simp [Act.put, hput, h.size], fun t x hx => ?_, h.defers⟩
    simp only [hput] at hx
    by_cases hdt : d = t
    · subst hdt
      have hlt : d < env.length := by
        rcases Nat.lt_or_ge d env.length with h' | h'
        · exact h'
        · simp [List.getElem?_eq_none (show (env.set d v).length ≤ d by simpa using h')] at hx
      have hx' : v = x := by simpa [hlt] using hx
      subst hx'
      have : (a.put (some d) cv).tmps.getD d undef = cv := by simp [Act.put, h.size, hlt]
      rw [this]; exact hv
    · rw [List.getElem?_set_ne hdt] at hx
      have : (a.put (some d) cv).tmps.getD t undef = a.tmps.getD t undef := by simp [Act.put, Array.getElem?_setIfInBounds_ne hdt]
      rw [this]; exact h.rep t x hx

/-- The cells of a value. -/
def hcells : HV → Option (List HV)
  | .agg cs => some cs
  | .lit v => if v.cells.toList.all Value.oneCell' then some (v.cells.toList.map .lit) else none
  | .junk => none
  | .tup _ => none
  | x => some [x]
theorem Rep.one {m : M} {x : HV} {v : Value} (h : Rep m x v) (hx : hone x = true) : v.oneCell' = true := by
  cases h <;> first | exact hx | rfl | (simp [hone] at hx; done)
theorem ones_lits {vs : List Value} (h : vs.all Value.oneCell' = true) : Ones (vs.map .lit) := by
  intro x hx
  obtain ⟨v, hv, rfl⟩ := List.mem_map.1 hx
  exact List.all_eq_true.1 h v hv
theorem reps_lits (m : M) {vs : List Value} (h : vs.all Value.oneCell' = true) : Reps m (vs.map .lit) vs := by
  refine ⟨ones_lits h, by simp, fun j z hj => ?_⟩
  simp only [List.getElem?_map] at hj
  cases hv : vs[j]? with
  | none => rw [hv] at hj; cases hj
  | some u =>
    rw [hv] at hj
    simp only [Option.map_some, Option.some.injEq] at hj
    subst hj
    have : vs.getD j undef = u := by simp [List.getD, hv]
    rw [this]; exact .lit u
theorem Reps.one {m : M} {xs : List HV} {vs : List Value} (h : Reps m xs vs) : ∀ v ∈ vs, v.oneCell' = true := by
  intro v hv
  obtain ⟨j, hj⟩ := List.getElem?_of_mem hv
  have hlt := (List.getElem?_eq_some_iff.1 hj).1
  have hlt2 : j < xs.length := by rw [← h.2.1]; exact hlt
  have h1 := h.2.2 j xs[j] (by simp [hlt2])
  have : vs.getD j undef = v := by simp [List.getD, hj]
  rw [this] at h1
  exact h1.one (h.1 _ (List.getElem_mem hlt2))
theorem Rep.cells {m : M} {x : HV} {v : Value} (h : Rep m x v) {cs : List HV} (hc : hcells x = some cs) : Reps m cs v.cells.toList := by
  have single : ∀ y u, Rep m y u → hone y = true → u.cells = #[u] → Reps m [y] u.cells.toList := fun y u hr ho hu => by
    rw [hu]
    refine ⟨fun z hz => by simp at hz; subst hz; exact ho, rfl, fun j z hj => ?_⟩
    cases j with
    | zero => simp at hj; subst hj; exact hr
    | succ j => simp at hj
  cases h with
  | lit v =>
    simp only [hcells] at hc
    split at hc
    · rename_i ha
      cases hc
      exact reps_lits m ha
    · cases hc
  | junk v => cases hc
  | agg cs' vs ho hs hr => simp only [hcells, Option.some.injEq] at hc; subst hc; exact ⟨ho, by simpa [Value.cells] using hs, fun j z hj => by have := hr j z hj; simpa [Value.cells, List.getD] using this⟩
  | tup cs vs hs hr => cases hc
  | ptr id off l hl => simp only [hcells, Option.some.injEq] at hc; subst hc; exact single _ _ (.ptr id off l hl) rfl rfl
  | elt cs off b o f h0 h1 h2 => simp only [hcells, Option.some.injEq] at hc; subst hc; exact single _ _ (.elt cs off b o f h0 h1 h2) rfl rfl
  | list0 sz a cap full hf => simp only [hcells, Option.some.injEq] at hc; subst hc; exact single _ _ (.list0 sz a cap full hf) rfl rfl
  | nils cap => simp only [hcells, Option.some.injEq] at hc; subst hc; exact single _ _ (.nils cap) rfl rfl
  | ne sz a cap => simp only [hcells, Option.some.injEq] at hc; subst hc; exact single _ _ (.ne sz a cap) rfl rfl
  | list sz n cs full cap b o f h1 h2 h3 h0 h4 h5 => simp only [hcells, Option.some.injEq] at hc; subst hc; exact single _ _ (.list sz n cs full cap b o f h1 h2 h3 h0 h4 h5) rfl rfl
  | view0 id off sz full a => simp only [hcells, Option.some.injEq] at hc; subst hc; exact single _ _ (.view0 id off sz full a) rfl rfl
  | view id off sz n full cap l h1 h2 h3 h4 => simp only [hcells, Option.some.injEq] at hc; subst hc; exact single _ _ (.view id off sz n full cap l h1 h2 h3 h4) rfl rfl
  | map id l hl => simp only [hcells, Option.some.injEq] at hc; subst hc; exact single _ _ (.map id l hl) rfl rfl
  | func fn cs vs hs hr => simp only [hcells, Option.some.injEq] at hc; subst hc; exact single _ _ (.func fn cs vs hs hr) rfl rfl

-- the operations
def vPick (c a b : HV) : Option HV :=
  match c with
  | .lit (.bool true) => some a
  | .lit (.bool false) => some b
  | _ => none
def vNil : HV → Option HV
  | .ptr id off => some (.ptr id off)
  | .elt cs off => some (.elt cs off)
  | .func (.func f) caps => some (.func (.func f) caps)
  | _ => none
def vBin (op : BinOp) (x y : HV) : Option HV :=
  match x, y with
  | .lit (.int k a), .lit (.int k' b) =>
    (match op with
    | .shl => if b < 0 then none else some (.lit (.int k (k.wrap (a * 2 ^ (min b.toNat k.bits)))))
    | .shr => if b < 0 then none else some (.lit (.int k (a.fdiv (2 ^ (min b.toNat k.bits)))))
    | op => if k = k' then (match op with
      | .add => some (.lit (.int k (k.wrap (a + b))))
      | .sub => some (.lit (.int k (k.wrap (a - b))))
      | .mul => some (.lit (.int k (k.wrap (a * b))))
      | .quo => if b = 0 then none else some (.lit (.int k (k.wrap (a.tdiv b))))
      | .rem => if b = 0 then none else some (.lit (.int k (a.tmod b)))
      | .and => some (.lit (.int k (bits .and k a b)))
      | .or => some (.lit (.int k (bits .or k a b)))
      | .xor => some (.lit (.int k (bits .xor k a b)))
      | .andNot => some (.lit (.int k (bits .andNot k a b)))
      | .eql => some (.lit (.bool (a == b)))
      | .neq => some (.lit (.bool (a != b)))
      | .lss => some (.lit (.bool (a < b)))
      | .leq => some (.lit (.bool (a ≤ b)))
      | .gtr => some (.lit (.bool (a > b)))
      | .geq => some (.lit (.bool (a ≥ b)))
      | _ => none) else none)
  | .lit (.string a), .lit (.string b) =>
    (match op with
    | .add => if ((a.size + b.size : Nat) : Int) > IntKind.i64.max then none else some (.lit (.string (a ++ b)))
    | .eql => some (.lit (.bool (a.toList == b.toList)))
    | .neq => some (.lit (.bool (!(a.toList == b.toList))))
    | .lss => some (.lit (.bool (Op.bytesLess a.toList b.toList)))
    | .leq => some (.lit (.bool (Op.bytesLess a.toList b.toList || a.toList == b.toList)))
    | .gtr => some (.lit (.bool (!(Op.bytesLess a.toList b.toList || a.toList == b.toList))))
    | .geq => some (.lit (.bool (!(Op.bytesLess a.toList b.toList))))
    | _ => none)
  | _, _ => none
/-- Equality of what is neither a number nor a text. -/
def vEq (d : Option TypeDesc) (x y : HV) : Option Bool :=
  match d with
  | some .bool => (match x, y with | .lit (.bool a), .lit (.bool b) => some (a == b) | _, _ => none)
  | some (.pointer _) => (match x, y with
    | .lit (.pointer none), .lit (.pointer none) => some true
    | .ptr _ _, .lit (.pointer none) => some false
    | .elt _ _, .lit (.pointer none) => some false
    | .lit (.pointer none), .ptr _ _ => some false
    | .lit (.pointer none), .elt _ _ => some false
    | _, _ => none)
  | some (.slice _) => (match x, y with
    | .lit (.slice none _ _), .lit (.slice none _ _) => some true
    | .list _ (n + 1) _ _, .lit (.slice none _ _) => some false
    | .ne _, .lit (.slice none _ _) => some false
    | .nils, .lit (.slice none _ _) => some true
    | .view _ _ _ _ _, .lit (.slice none _ _) => some false
    | _, _ => none)
  | some (.map _ _) => (match x, y with
    | .lit (.map none), .lit (.map none) => some true
    | .map _, .lit (.map none) => some false
    | _, _ => none)
  | some (.func _ _ _) => (match x, y with
    | .lit .nilFunc, .lit .nilFunc => some true
    | .func _ _, .lit .nilFunc => some false
    | _, _ => none)
  | _ => none
def vCmp (d : Option TypeDesc) (op : BinOp) (x y : HV) : Option HV :=
  match op with
  | .eql => (match vBin .eql x y with | some v => some v | none => (vEq d x y).map fun b => .lit (.bool b))
  | .neq => (match vBin .neq x y with | some v => some v | none => (vEq d x y).map fun b => .lit (.bool (!b)))
  | op => vBin op x y
def vUn (op : UnOp) (x : HV) : Option HV :=
  match op, x with
  | .neg, .lit (.int k n) => some (.lit (.int k (k.wrap (0 - n))))
  | .xor, .lit (.int k n) => some (.lit (.int k (bits .xor k (if k.signed then -1 else k.max) n)))
  | .not, .lit (.bool b) => some (.lit (.bool (!b)))
  | _, _ => none
def vField (off : Nat) : HV → Option HV
  | .ptr id o => some (.ptr id (o + off))
  | .elt cs o => some (.elt cs (o + off))
  | _ => none
/-- Part of a value of cells. -/
def takeCells (cs : List HV) (off n : Nat) (ag : Bool) : Option HV :=
  if ag then (if off + n ≤ cs.length then some (.agg ((cs.drop off).take n)) else none) else cs[off]?
def vPart (off n : Nat) (ag : Bool) (x : HV) : Option HV :=
  match x with
  | .agg cs => takeCells cs off n ag
  | .lit (.agg vs) => if vs.toList.all Value.oneCell' then takeCells (vs.toList.map .lit) off n ag else none
  | _ => none
def vIdx (sz : Nat) (x i : HV) : Option HV :=
  match i with
  | .lit (.int _ i) => (match x with
    | .list _ n cs _ => if 0 ≤ i ∧ i < (n : Int) then some (.elt ((cs.drop (i.toNat * sz)).take sz) 0) else none
    | .view id off _ n _ => if 0 ≤ i ∧ i < (n : Int) then some (.ptr id (off + i.toNat * sz)) else none
    | _ => none)
  | _ => none
def vIdxArr (len sz : Nat) (x i : HV) : Option HV :=
  match i with
  | .lit (.int _ i) => (match x with
    | .ptr id off => if 0 ≤ i ∧ i < (len : Int) then some (.ptr id (off + i.toNat * sz)) else none
    | .elt cs off => if 0 ≤ i ∧ i < (len : Int) then some (.elt cs (off + i.toNat * sz)) else none
    | _ => none)
  | _ => none
def vStrIdx (x i : HV) : Option HV :=
  match i, x with
  | .lit (.int _ i), .lit (.string s) => if 0 ≤ i then (s[i.toNat]?).map fun b => .lit (.int .u8 b.toNat) else none
  | _, _ => none
def vAggIdx (len sz : Nat) (ag : Bool) (x i : HV) : Option HV :=
  match i with
  | .lit (.int _ i) => if 0 ≤ i ∧ i < (len : Int) then vPart (i.toNat * sz) sz ag x else none
  | _ => none
def intAt : Option HV → Option Int
  | some (.lit (.int _ i)) => some i
  | _ => none
/-- The bounds of a cut. -/
def cutAt (n : Nat) (lo hi mx : Option HV) : Option (Nat × Nat × Bool) :=
  match (match mx with | none => some none | some v => (intAt (some v)).map some), (match hi with | none => some (n : Int) | some v => intAt (some v)), (match lo with | none => some 0 | some v => intAt (some v)) with
  | some mo, some h, some l =>
    if 0 ≤ l ∧ l ≤ h ∧ h ≤ (n : Int) ∧ (hi.isNone = true → mx.isNone = true) then (match mo with
      | none => some (l.toNat, h.toNat, false)
      | some x => if x = h then some (l.toNat, h.toNat, true) else none)
    else none
  | _, _, _ => none
def isNilS : Value → Bool
  | .slice none n c => n == 0 && c == 0
  | _ => false
theorem isNilS_eq {v : Value} (h : isNilS v = true) : v = .slice none 0 0 := by
  unfold isNilS at h
  split at h
  · simp at h; obtain ⟨rfl, rfl⟩ := h; rfl
  · cases h
def vSlice (sz : Nat) (x : HV) (lo hi mx : Option HV) : Option HV :=
  match x with
  | .list k n cs full => if k = sz then (cutAt n lo hi mx).map fun (l, h, f) => .list sz (h - l) ((cs.drop (l * sz)).take ((h - l) * sz)) (f || (full && h == n)) else none
  | .view id off k n full => if k = sz then (cutAt n lo hi mx).map fun (l, h, f) => .view id (off + l * sz) sz (h - l) (f || (full && h == n)) else none
  | .lit v => if isNilS v then (cutAt 0 lo hi mx).map fun _ => .lit (.slice none 0 0) else none
  | .nils => (cutAt 0 lo hi mx).map fun _ => .nils
  | _ => none
def vStrSlice (x : HV) (lo hi : Option HV) : Option HV :=
  match x with
  | .lit (.string s) => (cutAt s.size lo hi none).map fun (l, h, _) => .lit (.string (s.extract l h))
  | _ => none
def vExtract (x : HV) (i : Nat) : Option HV :=
  match x with
  | .tup vs => vs[i]?
  | .lit (.tuple vs) => (vs[i]?).map .lit
  | _ => none
def vLen (s : HS) : HV → Option HV
  | .ne _ => some (.lit (.int .i64 0))
  | .nils => some (.lit (.int .i64 0))
  | .list _ n _ _ => some (.lit (.int .i64 n))
  | .view _ _ _ n _ => some (.lit (.int .i64 n))
  | .lit (.slice _ n _) => some (.lit (.int .i64 n))
  | .lit (.string b) => some (.lit (.int .i64 b.size))
  | .lit (.map none) => some (.lit (.int .i64 0))
  | .map id => (match s id with | some (.map _ _ n) => some (.lit (.int .i64 n)) | _ => none)
  | _ => none
def vMax2 : HV → HV → Option HV
  | .lit (.int k x), .lit (.int _ y) => some (.lit (.int k (if y > x then y else x)))
  | _, _ => none
def vMin2 : HV → HV → Option HV
  | .lit (.int k x), .lit (.int _ y) => some (.lit (.int k (if y < x then y else x)))
  | _, _ => none
def vLoad (s : HS) (p : HV) (n : Nat) (ag : Bool) : Option HV :=
  match p with
  | .ptr id off => (match s id with | some (.cells cs) => takeCells cs off n ag | _ => none)
  | .elt cs off => takeCells cs off n ag
  | _ => none
/-- The cells of a slice. -/
def litCells (sz : Nat) : Value → Option (List HV)
  | .slice none n _ => if n = 0 then some [] else none
  | .string b => if sz = 1 then some (b.data.toList.map fun c => .lit (.int .u8 c.toNat)) else none
  | _ => none
def lcells (s : HS) (sz : Nat) : HV → Option (List HV)
  | .ne k => if k = sz then some [] else none
  | .nils => some []
  | .list k n cs _ => if k = sz then some cs else none
  | .view id off k n _ => (match s id with | some (.cells cs) => if k = sz ∧ off + n * sz ≤ cs.length then some ((cs.drop off).take (n * sz)) else none | _ => none)
  | .lit v => litCells sz v
  | _ => none
def byteOfHV : HV → Option UInt8
  | .lit (.int .u8 n) => some (UInt8.ofNat n.toNat)
  | _ => none
def bytesOf (cs : List HV) : Option (List UInt8) := cs.mapM byteOfHV
def vToStr (s : HS) (x : HV) : Option HV := ((lcells s 1 x).bind bytesOf).map fun b => .lit (.string ⟨b.toArray⟩)
def vToInt (k : IntKind) : HV → Option HV
  | .lit (.int _ n) => some (.lit (.int k (k.wrap n)))
  | _ => none
def vIsStr : HV → Option HV
  | .lit (.string b) => some (.lit (.string b))
  | _ => none
def sameKey : TypeDesc → TypeDesc → Bool
  | .int k, .int k' => k == k'
  | .string, .string => true
  | .bool, .bool => true
  | _, _ => false
def vLookup (s : HS) (d : Option TypeDesc) (zero : HV) (x k : HV) (ok : Bool) : Option HV :=
  match k, d with
  | .lit k, some d => if keyIs d k then (match x with
    | .lit (.map none) => some (if ok then .tup [zero, .lit (.bool false)] else zero)
    | .map id => (match s id with
      | some (.map d' f _) => if sameKey d' d then some (if ok then .tup [(f k).getD zero, .lit (.bool (f k).isSome)] else (f k).getD zero) else none
      | _ => none)
    | _ => none) else none
  | _, _ => none
/-- Parts laid into cells. -/
def hfill (place : Nat → Option (Nat × Nat)) (cs : List HV) : List (Nat × HV) → Option (List HV)
  | [] => some cs
  | (i, v) :: rest =>
    match place i, hcells v with
    | some (off, size), some vs => if vs.length = size ∧ off + vs.length ≤ cs.length then hfill place (cs.take off ++ vs ++ cs.drop (off + vs.length)) rest else none
    | _, _ => none
end Go.Proofs.Ytecnfekcflfihaa.H
