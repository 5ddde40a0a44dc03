/- The H layer, 11: regions that draw their order: early operations first, then what makes or writes, one at a time. -/
import Derived.Test.YtecnfekcflfihaaH9
namespace Go.Proofs.Ytecnfekcflfihaa.H
open Go.RowKit Go.MapKept
set_option linter.unusedVariables false
set_option linter.unusedSimpArgs false
variable {P : Program} {m : M} {s : HS} {w : World}

/-- What must not be taken early: what makes or writes, and what is put into a variable. -/
def isLate (P : Program) (op : Op) : Bool := isEff P op || (match op with | .assign _ => true | _ => false)
/-- What reads memory. -/
def isRead (op : Op) : Bool :=
  match op with
  | .load _ _ | .lookup _ _ _ _ | .convert _ _ _ => true
  | .call { callee := .builtin .len, .. } => true
  | _ => false
def waits (ops : Array Oper) (k : Nat) : List Nat :=
  match ops[k]? with
  | some o => (o.after.toList.filter fun e => Region.binds .any e).map (·.on)
  | none => []
def readyD (ops : Array Oper) (L : List Nat) : List Nat := (List.range ops.size).filter fun k => !L.contains k && (waits ops k).all L.contains
def nextEarly (P : Program) (ops : Array Oper) (L : List Nat) : Option Nat := (readyD ops L).find? fun k => match ops[k]? with | some o => !isLate P o.op | none => false
/-- k waits for i, by a chain. -/
def reachD (ops : Array Oper) (i : Nat) : Nat → Nat → Bool
  | 0, _ => false
  | fuel + 1, k => (waits ops k).any fun j => j == i || reachD ops i fuel j
def looks (ops : Array Oper) (k : Nat) : List Nat := match ops[k]? with | some o => o.looksAt ops | none => []
/-- i, that may come later than it was taken, bears with k. -/
def bears (ops : Array Oper) (i k : Nat) : Bool :=
  (match dstOf ops k with | some d => !(looks ops i).contains d && dstOf ops i != some d | none => true) &&
  (match dstOf ops i with | some d => !(looks ops k).contains d || reachD ops i ops.size k | none => true)
def reads (ops : Array Oper) (i k : Nat) : Bool :=
  match dstOf ops i with | some d => !(looks ops k).contains d || reachD ops i ops.size k | none => true
def keepW (ops : Array Oper) (W : List Nat) (k : Nat) : List Nat := W.filter fun i => !reachD ops i ops.size k
/-- What was read early is still so; then R. -/
def watchOK (P : Program) (ops : Array Oper) (env : List HV) (s s' : HS) : List Nat → Prop → Prop
  | [], R => R
  | i :: r, R => match ops[i]? with | some o => if isRead o.op then hval P o.op env s' = hval P o.op env s ∧ watchOK P ops env s s' r R else watchOK P ops env s s' r R | none => watchOK P ops env s s' r R
def hstep (P : Program) (ops : Array Oper) (k : Nat) (o : Oper) (kn : Known) (env : List HV) (s : HS) (K : Known → List HV → HS → Prop) : Prop :=
  match o.guard with
  | none => hdo P o env s fun v s' => K (forget ops o.dst kn) (hput env o.dst v) s'
  | some (j, want) =>
    match knownAt kn j with
    | some b => if b = some want then hdo P o env s fun v s' => K (forget ops o.dst kn) (hput env o.dst v) s' else K ((k, none) :: forget ops o.dst kn) (hput env o.dst (.lit undef)) s
    | none => hcond (gval ops env j)
        (if want = true then hdo P o (setB ops env j true) s fun v s' => K (forget ops o.dst ((j, some true) :: kn)) (hput (setB ops env j true) o.dst v) s' else K ((k, none) :: forget ops o.dst ((j, some true) :: kn)) (hput (setB ops env j true) o.dst (.lit undef)) s)
        (if want = false then hdo P o (setB ops env j false) s fun v s' => K (forget ops o.dst ((j, some false) :: kn)) (hput (setB ops env j false) o.dst v) s' else K ((k, none) :: forget ops o.dst ((j, some false) :: kn)) (hput (setB ops env j false) o.dst (.lit undef)) s)
def hall : List Nat → (Nat → Prop) → Prop
  | [], _ => True
  | [k], F => F k
  | k :: r, F => F k ∧ hall r F
def selfOK (ops : Array Oper) (k : Nat) : Bool := match dstOf ops k with | some d => !(looks ops k).contains d | none => true
def hdr (P : Program) (ops : Array Oper) (K : List HV → HS → Prop) : Nat → List Nat → List Nat → Known → List HV → HS → Prop
  | 0, _, _, _, _, _ => False
  | fuel + 1, L, W, kn, env, s =>
    match nextEarly P ops L with
    | some k => (match ops[k]? with
      | some o => if selfOK ops k && W.all fun i => bears ops i k then hstep P ops k o kn env s fun kn' env' s' => hdr P ops K fuel (k :: L) (k :: W) kn' env' s' else False
      | none => False)
    | none => (match readyD ops L with
      | [] => K env s
      | l => hall l fun k => (match ops[k]? with
        | some o => if W.all (fun i => reads ops i k) && (keepW ops W k).all fun i => bears ops i k then
            hstep P ops k o kn env s fun kn' env' s' => watchOK P ops env s s' (keepW ops W k) (hdr P ops K fuel (k :: L) (keepW ops W k) kn' env' s') else False
        | none => False))
def hdraw (P : Program) (ops : Array Oper) (K : List HV → HS → Prop) (env : List HV) (s : HS) : Prop :=
  if P.follows .mixedOrders || !Region.departs ops then hdr P ops K (ops.size + 1) [] [] [] env s else False
end Go.Proofs.Ytecnfekcflfihaa.H
