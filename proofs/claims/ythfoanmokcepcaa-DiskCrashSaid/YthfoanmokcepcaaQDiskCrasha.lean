/- What the proof of the law DiskCrash needs, cut out of the session's own texts by a program (slim.py): part 1. -/
import Derived.WalkKit
import Derived.Laws.AppendOwn
import Derived.MapKept
import Derived.WalkSpells
import Derived.Laws.StructEq
import Derived.Laws.IdiomCopy
import Derived.Great.FillDense
import Derived.Laws.Tables
import Derived.Maps.RangeRun
import Derived.Orders
import Derived.OrdersIn
import Derived.RangeFuncIn
import Derived.RangeFuncLeaves
import Derived.RangeFuncRecord
import Derived.Test.YthfoanmokcepcaaProg
import Derived.Shelf.AbstractIn
import Derived.Shelf.SlIter.Nil
import Derived.Shelf.SortM.Plain
import Derived.Shelf.SortM.SortNone
import Derived.Ground.GgzProg
import Derived.Ground.SlgmProg
import Derived.Ground.SlmcProg
import Derived.Shelf.SlMaps.Clone
import Derived.RangeFuncBox
import Derived.RangeFuncCalls
import Derived.Shelf.Abstract
import Derived.Below
import Derived.Deep.Draws
import Derived.Deep.AppendLies
import Derived.Maps.AppendAt
import Derived.OwnWalk
import Derived.Laws.BytesArg
import Derived.Laws.MakeOwn
import Derived.Laws.OwnMore
import Derived.Deep.OwnRows
import Derived.Tactics
import Derived.Lib.ConvBytes
import Derived.Laws.Slices
import Derived.KernelRfl
import Derived.RowKit3
import Derived.Deep.LoopGhost
import Derived.Deep.QuietTactic
import Derived.BigQuiet
import Derived.WideLaws
import Derived.Deep.DeepCutAuto
import Derived.Deep.CutBlock
import Derived.Deep.RegionHeld3
import Derived.Laws.Rows
import Derived.Lib.AppendStr
import Derived.ArgAppend
import Derived.RowKit
import Derived.OrdersHeld
import Derived.Laws.BitsLemmas
import Derived.ChangeArms
import Derived.DataReads
import Derived.WideShapes
import Derived.ProofKit
import Derived.OpenShut
import Derived.ShutString
import Derived.ChangeOld
import Derived.SizedLaws
section
namespace Go.Proofs.Ythfoanmokcepcaa.H
open Go.RowKit Go.MapKept
set_option linter.unusedVariables false
set_option autoImplicit false
inductive HV where
  | lit (v : Value)
  | junk
  | ptr (id off : Nat)
  | elt (cs : List HV) (off : Nat)
  | list (sz n : Nat) (cs : List HV) (full : Bool)
  | ne (sz : Nat)
  | nils
  | view (id off sz n : Nat) (full : Bool)
  | map (id : Nat)
  | agg (cs : List HV)
  | tup (vs : List HV)
  | func (fn : Fn) (caps : List HV)
  | yld (id : Nat)
instance : Inhabited HV := ⟨.junk⟩
inductive HObj where
  | cells (cs : List HV)
  | map (d : TypeDesc) (f : Value → Option HV) (n : Nat)
  | tok (r : Loop) (env : List HV) (st : Option (Option Code))
  | root (cs : List HV)
  | mapx (d : TypeDesc) (es : List (Value × HV × Nat)) (cl : Nat)
  | iter (mid since : Nat) (seen : List Nat)
abbrev HS := Nat → Option HObj
def HS.set (s : HS) (id : Nat) (o : HObj) : HS := fun k => if k = id then some o else s k
def HS.del (s : HS) (id : Nat) : HS := fun k => if k = id then none else s k
/-- What s' knows, s knows. -/
def HS.le (s' s : HS) : Prop := ∀ k o, s' k = some o → s k = some o
/-- Where an object stands: its block, the number of its first cell, and the block's size. -/
structure Loc where
  b : Nat
  base : Nat
  lim : Nat
/-- Blocks that lie still; those that did so when the function was called. -/
structure Fixes where
  all : Nat → Prop
  old : Nat → Prop
  sub : ∀ k, old k → all k
instance : CoeFun Fixes (fun _ => Nat → Prop) := ⟨Fixes.all⟩
structure M where
  w0 : World
  fix : Fixes
  com : Nat → Nat → Option Value
  loc : Nat → Option Loc
  res : Nat → Bool
/-- Blocks that lie as they lay in a world. -/
structure Fixed (w0 : World) (fix : Nat → Prop) (w : World) : Prop where
  os : w.os = w0.os
  tape : w.tape = w0.tape
  output : w.output = w0.output
  block : ∀ k, fix k → k < w.heap.size ∧ w.heap[k]? = w0.heap[k]?
structure M.le (m m' : M) : Prop where
  env : m'.w0.os = m.w0.os ∧ m'.w0.tape = m.w0.tape ∧ m'.w0.output = m.w0.output
  fix : ∀ k, m.fix k → m'.fix k ∧ m'.w0.heap[k]? = m.w0.heap[k]?
  old : m'.fix.old = m.fix.old
  com : ∀ b o v, m.com b o = some v → m'.com b o = some v
  loc : ∀ id l, m.loc id = some l → m'.loc id = some l
  res : m'.res = m.res
  keep : ∀ id, m.res id = true → m'.loc id = m.loc id
theorem M.le.mk' {m m' : M} (hw : m'.w0 = m.w0) (hf : m'.fix = m.fix) (com : ∀ b o v, m.com b o = some v → m'.com b o = some v) (loc : ∀ id l, m.loc id = some l → m'.loc id = some l) (res : m'.res = m.res) (keep : ∀ id, m.res id = true → m'.loc id = m.loc id) : M.le m m' :=
  ⟨by rw [hw]; exact ⟨rfl, rfl, rfl⟩, fun k h => by rw [hf, hw]; exact ⟨h, rfl⟩, by rw [hf], com, loc, res, keep⟩
theorem M.le.refl (m : M) : M.le m m := M.le.mk' rfl rfl (fun _ _ _ h => h) (fun _ _ h => h) rfl (fun _ _ => rfl)
theorem M.le.trans {a b c : M} (h : M.le a b) (k : M.le b c) : M.le a c :=
  ⟨⟨k.env.1.trans h.env.1, k.env.2.1.trans h.env.2.1, k.env.2.2.trans h.env.2.2⟩, fun i hi => ⟨(k.fix i (h.fix i hi).1).1, (k.fix i (h.fix i hi).1).2.trans (h.fix i hi).2⟩, k.old.trans h.old, fun _ _ _ x => k.com _ _ _ (h.com _ _ _ x), fun _ _ x => k.loc _ _ (h.loc _ _ x), k.res.trans h.res, fun id x => (k.keep id (by rw [h.res]; exact x)).trans (h.keep id x)⟩
/-- Values that fill one cell. -/
def hone : HV → Bool
  | .agg _ | .tup _ | .junk => false
  | .lit v => v.oneCell'
  | _ => true
def Ones (cs : List HV) : Prop := ∀ x ∈ cs, hone x = true
inductive Rep (m : M) : HV → Value → Prop
  | lit (v : Value) : Rep m (.lit v) v
  | junk (v : Value) : Rep m .junk v
  | ptr (id off : Nat) (l : Loc) (hl : m.loc id = some l) : Rep m (.ptr id off) (.pointer (some ⟨l.b, l.base + off, none⟩))
  | elt (cs : List HV) (off b o : Nat) (f : Nat → Value) (ho : Ones cs) (hc : ∀ j, j < cs.length → m.com b (o + j) = some (f j))
      (hr : ∀ j x, cs[j]? = some x → Rep m x (f j)) : Rep m (.elt cs off) (.pointer (some ⟨b, o + off, none⟩))
  | list0 (sz : Nat) (a : Option Addr) (cap : Nat) (full : Bool) (hf : full = true → cap = 0) : Rep m (.list sz 0 [] full) (.slice a 0 cap)
  | ne (sz : Nat) (a : Addr) (cap : Nat) : Rep m (.ne sz) (.slice (some a) 0 cap)
  | nils (cap : Nat) : Rep m .nils (.slice none 0 cap)
  | list (sz n : Nat) (cs : List HV) (full : Bool) (cap b o : Nat) (f : Nat → Value) (hn : n ≤ cap) (hf : full = true → cap = n) (hlen : cs.length = n * sz) (ho : Ones cs)
      (hc : ∀ j, j < cs.length → m.com b (o + j) = some (f j)) (hr : ∀ j x, cs[j]? = some x → Rep m x (f j)) :
      Rep m (.list sz n cs full) (.slice (some ⟨b, o, none⟩) n cap)
  | view0 (id off sz : Nat) (full : Bool) (a : Addr) (hend : full = false → ∃ l, m.loc id = some l ∧ l.base + off = l.lim) : Rep m (.view id off sz 0 full) (.slice (some a) 0 0)
  | view (id off sz n : Nat) (full : Bool) (cap : Nat) (l : Loc) (hl : m.loc id = some l) (hn : n ≤ cap) (hf : full = true → cap = n)
      (hlim : l.base + off + cap * sz ≤ l.lim) (hend : full = false ∨ n ≠ 0 → l.base + off + cap * sz = l.lim) : Rep m (.view id off sz n full) (.slice (some ⟨l.b, l.base + off, none⟩) n cap)
  | map (id : Nat) (l : Loc) (hl : m.loc id = some l) : Rep m (.map id) (.map (some l.b))
  | agg (cs : List HV) (vs : Array Value) (ho : Ones cs) (hs : vs.size = cs.length) (hr : ∀ j x, cs[j]? = some x → Rep m x (vs.getD j undef)) : Rep m (.agg cs) (.agg vs)
  | tup (cs : List HV) (vs : Array Value) (hs : vs.size = cs.length) (hr : ∀ j x, cs[j]? = some x → Rep m x (vs.getD j undef)) : Rep m (.tup cs) (.tuple vs)
  | func (fn : Fn) (cs : List HV) (vs : Array Value) (hs : vs.size = cs.length) (hr : ∀ j x, cs[j]? = some x → Rep m x (vs.getD j undef)) :
      Rep m (.func fn cs) (.func fn #[] vs)
  | yld (id : Nat) (l : Loc) (hl : m.loc id = some l) : Rep m (.yld id) (.func (.yield l.b) #[] #[])
/-- What values stand for needs these alone. -/
structure M.ex (m m' : M) : Prop where
  com : ∀ b o v, m.com b o = some v → m'.com b o = some v
  loc : ∀ id l, m.loc id = some l → m'.loc id = some l
theorem M.le.ex {m m' : M} (h : M.le m m') : M.ex m m' := ⟨h.com, h.loc⟩
theorem Rep.ex {m m' : M} {x : HV} {v : Value} (h : Rep m x v) (hm : M.ex m m') : Rep m' x v := by
  induction h with
  | lit v => exact .lit v
  | junk v => exact .junk v
  | ptr id off l hl => exact .ptr id off l (hm.loc _ _ hl)
  | elt cs off b o f ho hc hr ih => exact .elt cs off b o f ho (fun j hj => hm.com _ _ _ (hc j hj)) ih
  | list0 sz a cap full hf => exact .list0 sz a cap full hf
  | ne sz a cap => exact .ne sz a cap
  | nils cap => exact .nils cap
  | list sz n cs full cap b o f hn hf hlen ho hc hr ih => exact .list sz n cs full cap b o f hn hf hlen ho (fun j hj => hm.com _ _ _ (hc j hj)) ih
  | view0 id off sz full a he => exact .view0 id off sz full a fun h => let ⟨l, h1, h2⟩ := he h; ⟨l, hm.loc _ _ h1, h2⟩
  | view id off sz n full cap l hl hn hf hlim he => exact .view id off sz n full cap l (hm.loc _ _ hl) hn hf hlim he
  | map id l hl => exact .map id l (hm.loc _ _ hl)
  | agg cs vs ho hs hr ih => exact .agg cs vs ho hs ih
  | tup cs vs hs hr ih => exact .tup cs vs hs ih
  | func fn cs vs hs hr ih => exact .func fn cs vs hs ih
  | yld id l hl => exact .yld id l (hm.loc _ _ hl)
theorem Rep.mono {m m' : M} {x : HV} {v : Value} (h : Rep m x v) (hm : M.le m m') : Rep m' x v := h.ex hm.ex
/-- Cells of values. -/
def Reps (m : M) (xs : List HV) (vs : List Value) : Prop := Ones xs ∧ vs.length = xs.length ∧ ∀ j x, xs[j]? = some x → Rep m x (vs.getD j undef)
theorem Reps.mono {m m' : M} {xs : List HV} {vs : List Value} (h : Reps m xs vs) (hm : M.le m m') : Reps m' xs vs := ⟨h.1, h.2.1, fun j x hj => (h.2.2 j x hj).mono hm⟩
/-- The kinds of keys. -/
def keyIs (d : TypeDesc) : Value → Bool
  | .int k _ => match d with | .int k' => k == k' | _ => false
  | .string _ => match d with | .string => true | _ => false
  | .bool _ => match d with | .bool => true | _ => false
  | _ => false
theorem isKey_of {d : TypeDesc} {k : Value} (h : keyIs d k = true) : IsKey d k := by
  cases k <;> cases d <;> simp_all [keyIs, IsKey]
/-- A range's record: busy; ready; done, with a jump that is pending. -/
def tokOf (r : Loop) : Option (Option Code) → Loop
  | none => { r with state := .busy, pending := none }
  | some st => { r with state := if st.isNone then .ready else .done, pending := st }
/-- What an object is in a world. -/
def ObjAt (m : M) (ob : HObj) (l : Loc) (w : World) : Prop :=
  match ob with
  | .cells cs => Ones cs ∧ ∃ c t fr, w.heap[l.b]? = some (.cells c t fr) ∧ c.size = l.lim ∧ l.base + cs.length ≤ l.lim ∧ (fr.1 = fr.2 ∨ l.lim ≤ fr.1) ∧ ∀ j x, cs[j]? = some x → Rep m x (c.getD (l.base + j) undef)
  | .map d f n => ∃ es clock, w.heap[l.b]? = some (.map es clock) ∧ es.size = n ∧ Stamped es clock ∧ (∀ e ∈ es.toList, IsKey d e.key) ∧
      (∀ k x, f k = some x → ∃ e ∈ es.toList, e.key = k ∧ Rep m x e.val) ∧ ∀ e ∈ es.toList, (f e.key).isSome = true
  | .tok r env st => w.heap[l.b]? = some (.loop (tokOf r st)) ∧ r.tmps.size = env.length ∧ ∀ t x, env[t]? = some x → Rep m x (r.tmps.getD t undef)
  | .root cs => l.base = 0 ∧ ∃ c t fr, w.heap[l.b]? = some (.cells c t fr) ∧ cs.length ≤ c.size ∧ ∀ j x, cs[j]? = some x → Rep m x (c.getD j undef)
  | .mapx d es cl => ∃ a : Array MapEntry, w.heap[l.b]? = some (.map a cl) ∧ Stamped a cl ∧ (∀ e ∈ a.toList, IsKey d e.key) ∧ a.size = es.length ∧ ∀ (j : Nat) (e : Value × HV × Nat), es[j]? = some e → ∃ e' : MapEntry, a.toList[j]? = some e' ∧ e'.key = e.1 ∧ e'.born = e.2.2 ∧ Rep m e.2.1 e'.val
  | .iter mid since seen => l.base = 0 ∧ ∃ lm, m.loc mid = some lm ∧ w.heap[l.b]? = some (.mapIter (some lm.b) since seen.toArray since)
/-- Blocks for the rounds' deferred calls, that nobody has written. -/
def Marks (m : M) (ds : List Deferred) : Prop := (∀ d ∈ ds, ∃ D, d = { target := .collected D, args := #[] } ∧ m.fix D ∧ ¬ m.fix.old D ∧ m.w0.heap[D]? = some (.deferred (some []))) ∧ ds.Pairwise (fun a b => a ≠ b)
theorem Marks.nil (m : M) : Marks m [] := ⟨fun d hd => (by cases hd), List.Pairwise.nil⟩
theorem Marks.mono {m m' : M} {ds : List Deferred} (h : Marks m ds) (hm : M.le m m') : Marks m' ds :=
  ⟨fun d hd => let ⟨D, h1, h2, h4, h3⟩ := h.1 d hd; ⟨D, h1, (hm.fix D h2).1, by rw [hm.old]; exact h4, (hm.fix D h2).2.trans h3⟩, h.2⟩
structure Rel (m : M) (s : HS) (w : World) : Prop where
  below : Fixed m.w0 m.fix w
  com : ∀ b o v, m.com b o = some v → w.cell? ⟨b, o, none⟩ = some v
  objs : ∀ id ob l, s id = some ob → m.loc id = some l → ObjAt m ob l w
  own : ∀ id ob l, s id = some ob → m.loc id = some l → ¬ m.fix l.b ∧ ∀ o, m.com l.b o = none
  inj : ∀ id id' ob ob' l l', s id = some ob → s id' = some ob' → m.loc id = some l → m.loc id' = some l' → l.b = l'.b → id = id'
  fin : ∃ N, ∀ id, N ≤ id → s id = none ∧ m.loc id = none ∧ m.res id = false
theorem ObjAt.ex {m m' : M} {ob : HObj} {l : Loc} {w : World} (h : ObjAt m ob l w) (hm : M.ex m m') : ObjAt m' ob l w := by
  cases ob with
  | cells cs => obtain ⟨h0, c, t, fr, h1, h2, h3, h4, h5⟩ := h; exact ⟨h0, c, t, fr, h1, h2, h3, h4, fun j x hj => (h5 j x hj).ex hm⟩
  | map d f n => obtain ⟨es, cl, h1, h2, h3, h6, h4, h5⟩ := h; exact ⟨es, cl, h1, h2, h3, h6, fun k x hk => (h4 k x hk).imp fun e he => ⟨he.1, he.2.1, he.2.2.ex hm⟩, h5⟩
  | tok r env st => exact ⟨h.1, h.2.1, fun t x ht => (h.2.2 t x ht).ex hm⟩
  | root cs => obtain ⟨h0, c, t, fr, h1, h2, h5⟩ := h; exact ⟨h0, c, t, fr, h1, h2, fun j x hj => (h5 j x hj).ex hm⟩
  | mapx d es cl => obtain ⟨a, h1, h2, h3, h4, h5⟩ := h; exact ⟨a, h1, h2, h3, h4, fun j e hj => (h5 j e hj).imp fun e' he => ⟨he.1, he.2.1, he.2.2.1, he.2.2.2.ex hm⟩⟩
  | iter mid since seen => obtain ⟨h0, lm, h1, h2⟩ := h; exact ⟨h0, lm, hm.loc _ _ h1, h2⟩
theorem ObjAt.mono {m m' : M} {ob : HObj} {l : Loc} {w : World} (h : ObjAt m ob l w) (hm : M.le m m') : ObjAt m' ob l w := h.ex hm.ex
theorem ObjAt.of_block {m : M} {ob : HObj} {l : Loc} {w w' : World} (h : ObjAt m ob l w) (hb : w'.heap[l.b]? = w.heap[l.b]?) : ObjAt m ob l w' := by
  cases ob with
  | cells cs => obtain ⟨h0, c, t, fr, h1, h2⟩ := h; exact ⟨h0, c, t, fr, hb.trans h1, h2⟩
  | map d f n => obtain ⟨es, cl, h1, h2⟩ := h; exact ⟨es, cl, hb.trans h1, h2⟩
  | tok r env st => exact ⟨Eq.trans hb h.1, h.2⟩
  | root cs => obtain ⟨h0, c, t, fr, h1, h2⟩ := h; exact ⟨h0, c, t, fr, hb.trans h1, h2⟩
  | mapx d es cl => obtain ⟨a, h1, h2⟩ := h; exact ⟨a, hb.trans h1, h2⟩
  | iter mid since seen => obtain ⟨h0, lm, h1, h2⟩ := h; exact ⟨h0, lm, h1, hb.trans h2⟩
theorem ObjAt.lt {m : M} {ob : HObj} {l : Loc} {w : World} (h : ObjAt m ob l w) : l.b < w.heap.size := by
  cases ob with
  | cells cs => obtain ⟨h0, c, t, fr, h1, h2⟩ := h; exact (Array.getElem?_eq_some_iff.1 h1).1
  | map d f n => obtain ⟨es, cl, h1, h2⟩ := h; exact (Array.getElem?_eq_some_iff.1 h1).1
  | tok r env st => exact (Array.getElem?_eq_some_iff.1 h.1).1
  | root cs => obtain ⟨h0, c, t, fr, h1, h2⟩ := h; exact (Array.getElem?_eq_some_iff.1 h1).1
  | mapx d es cl => obtain ⟨a, h1, h2⟩ := h; exact (Array.getElem?_eq_some_iff.1 h1).1
  | iter mid since seen => obtain ⟨h0, lm, h1, h2⟩ := h; exact (Array.getElem?_eq_some_iff.1 h2).1
/-- Less is known. -/
theorem HS.le_none {s s' : HS} (h : HS.le s' s) {id : Nat} (hn : s id = none) : s' id = none := by
  rcases hx : s' id with _ | o
  · rfl
  · rw [h _ _ hx] at hn; cases hn
theorem Rel.weaken {m : M} {s s' : HS} {w : World} (h : Rel m s w) (hs : HS.le s' s) : Rel m s' w := by
  obtain ⟨N, hN⟩ := h.fin
  exact ⟨h.below, h.com, fun id ob l hi hl => h.objs id ob l (hs _ _ hi) hl, fun id ob l hi hl => h.own id ob l (hs _ _ hi) hl,
    fun id id' ob ob' l l' h1 h2 h3 h4 h5 => h.inj id id' ob ob' l l' (hs _ _ h1) (hs _ _ h2) h3 h4 h5,
    N, fun id hi => ⟨HS.le_none hs (hN id hi).1, (hN id hi).2⟩⟩
theorem Rel.drew {m : M} {s : HS} {w : World} (h : Rel m s w) : Rel m s w.drew :=
  ⟨⟨h.below.os, h.below.tape, h.below.output, h.below.block⟩, h.com, fun id ob l hi hl => (h.objs id ob l hi hl).of_block rfl, h.own, h.inj, h.fin⟩
theorem cell_block {w w' : World} {b o : Nat} (h : w'.heap[b]? = w.heap[b]?) : w'.cell? ⟨b, o, none⟩ = w.cell? ⟨b, o, none⟩ := by simp [World.cell?, h]
theorem cell_lt {w : World} {b o : Nat} {v : Value} (h : w.cell? ⟨b, o, none⟩ = some v) : b < w.heap.size := by
  rcases Nat.lt_or_ge b w.heap.size with h' | h'
  · exact h'
  · simp [World.cell?, Array.getElem?_eq_none h'] at h
/-- A new object in a new block. -/
theorem Rel.new {m : M} {s : HS} {w : World} (h : Rel m s w) (o : Obj) (lim : Nat) : ∃ id, s id = none ∧ m.loc id = none ∧ m.res id = false ∧
    ∀ ob, ObjAt { m with loc := fun k => if k = id then some ⟨w.heap.size, 0, lim⟩ else m.loc k } ob ⟨w.heap.size, 0, lim⟩ (w.alloc o) →
      M.le m { m with loc := fun k => if k = id then some ⟨w.heap.size, 0, lim⟩ else m.loc k } ∧
      Rel { m with loc := fun k => if k = id then some ⟨w.heap.size, 0, lim⟩ else m.loc k } (s.set id ob) (w.alloc o) := by
  obtain ⟨N, hN⟩ := h.fin
  obtain ⟨h1, h2, h3⟩ := hN N (Nat.le_refl _)
  refine ⟨N, h1, h2, h3, fun ob hob => ?_⟩
  have hle : M.le m { m with loc := fun k => if k = N then some ⟨w.heap.size, 0, lim⟩ else m.loc k } := by
    refine M.le.mk' rfl rfl (fun _ _ _ x => x) (fun id l hl => ?_) rfl (fun id hr => ?_)
    · show (if id = N then _ else m.loc id) = some l
      rw [if_neg (fun e => by rw [e, h2] at hl; cases hl)]; exact hl
    · show (if id = N then _ else m.loc id) = m.loc id
      rw [if_neg (fun e => by rw [e, h3] at hr; cases hr)]
  refine ⟨hle, ?_⟩
  have hcomlt : ∀ b o v, m.com b o = some v → b < w.heap.size := fun b o v hc => cell_lt (h.com b o v hc)
  refine ⟨⟨h.below.os, h.below.tape, h.below.output, fun k hk => ⟨Nat.lt_of_lt_of_le (h.below.block k hk).1 (by simp), (Below.heap_alloc w o k (h.below.block k hk).1).trans (h.below.block k hk).2⟩⟩, ?_, ?_, ?_, ?_, ?_⟩
  · intro b o' v hc
    exact (cell_block (Below.heap_alloc w o b (hcomlt _ _ _ hc))).trans (h.com _ _ _ hc)
  · intro id ob' l hi hl
    by_cases he : id = N
    · subst he
      simp only [HS.set, if_true] at hi
      simp only [if_true] at hl
      cases hi; cases hl
      exact hob
    · simp only [HS.set, if_neg he] at hi
      simp only [if_neg he] at hl
      have := h.objs id ob' l hi hl
      exact (this.mono hle).of_block (Below.heap_alloc w o l.b this.lt)
  · intro id ob' l hi hl
    by_cases he : id = N
    · subst he
      simp only [if_true] at hl
      cases hl
      refine ⟨fun hf => Nat.lt_irrefl _ (h.below.block _ hf).1, fun o' => ?_⟩
      cases hc : m.com w.heap.size o' with
      | none => rfl
      | some v => exact absurd (hcomlt _ _ _ hc) (Nat.lt_irrefl _)
    · simp only [HS.set, if_neg he] at hi
      simp only [if_neg he] at hl
      exact h.own id ob' l hi hl
  · intro id id' oa ob' l l' hi hi' hl hl' hb
    by_cases he : id = N <;> by_cases he' : id' = N
    · rw [he, he']
    · simp only [HS.set, if_neg he'] at hi'
      simp only [if_neg he'] at hl'
      simp only [if_pos he] at hl
      cases hl
      exact absurd (h.objs id' ob' l' hi' hl').lt (by rw [← hb]; exact Nat.lt_irrefl _)
    · simp only [HS.set, if_neg he] at hi
      simp only [if_neg he] at hl
      simp only [if_pos he'] at hl'
      cases hl'
      exact absurd (h.objs id oa l hi hl).lt (by rw [hb]; exact Nat.lt_irrefl _)
    · simp only [HS.set, if_neg he] at hi
      simp only [if_neg he] at hl
      simp only [HS.set, if_neg he'] at hi'
      simp only [if_neg he'] at hl'
      exact h.inj id id' oa ob' l l' hi hi' hl hl' hb
  · refine ⟨N + 1, fun id hi => ?_⟩
    have hne : id ≠ N := by omega
    simp only [HS.set, if_neg hne]
    exact hN id (by omega)
/-- An object's cells are written. -/
theorem Rel.upd {m : M} {s : HS} {w w' : World} {id : Nat} {ob ob' : HObj} {l : Loc} (h : Rel m s w) (hi : s id = some ob) (hl : m.loc id = some l)
    (hb : ∀ b, b ≠ l.b → w'.heap[b]? = w.heap[b]?) (hos : w'.os = w.os) (htp : w'.tape = w.tape) (hout : w'.output = w.output) (hsz : w.heap.size ≤ w'.heap.size)
    (hob : ObjAt m ob' l w') : Rel m (s.set id ob') w' := by
  obtain ⟨hge, hnc⟩ := h.own id ob l hi hl
  refine ⟨⟨hos.trans h.below.os, htp.trans h.below.tape, hout.trans h.below.output, fun k hk => ⟨Nat.lt_of_lt_of_le (h.below.block k hk).1 hsz, (hb k (by rintro rfl; exact hge hk)).trans (h.below.block k hk).2⟩⟩, ?_, ?_, ?_, ?_, ?_⟩
  · intro b o v hc
    have hne : b ≠ l.b := fun e => by rw [e, hnc o] at hc; cases hc
    exact (cell_block (hb b hne)).trans (h.com b o v hc)
  · intro id2 ob2 l2 hi2 hl2
    by_cases he : id2 = id
    · subst he
      rw [hl] at hl2; cases hl2
      simp only [HS.set, if_true] at hi2; cases hi2
      exact hob
    · simp only [HS.set, if_neg he] at hi2
      exact (h.objs id2 ob2 l2 hi2 hl2).of_block (hb _ (fun e => he (h.inj id2 id ob2 ob l2 l hi2 hi hl2 hl e)))
  · intro id2 ob2 l2 hi2 hl2
    by_cases he : id2 = id
    · subst he
      rw [hl] at hl2; cases hl2
      exact ⟨hge, hnc⟩
    · simp only [HS.set, if_neg he] at hi2
      exact h.own id2 ob2 l2 hi2 hl2
  · intro a b oa ob2 la lb ha hb2 hla hlb hab
    by_cases hea : a = id <;> by_cases heb : b = id
    · rw [hea, heb]
    · subst hea
      simp only [HS.set, if_neg heb] at hb2
      exact h.inj a b ob ob2 la lb hi hb2 hla hlb hab
    · subst heb
      simp only [HS.set, if_neg hea] at ha
      exact h.inj a b oa ob la lb ha hi hla hlb hab
    · simp only [HS.set, if_neg hea] at ha
      simp only [HS.set, if_neg heb] at hb2
      exact h.inj a b oa ob2 la lb ha hb2 hla hlb hab
  · obtain ⟨N, hN⟩ := h.fin
    refine ⟨max N (id + 1), fun k hk => ?_⟩
    have hne : k ≠ id := by omega
    simp only [HS.set, if_neg hne]
    exact hN k (by omega)
/-- An object is gone; its block may be written. -/
theorem Rel.kill {m : M} {s : HS} {w w' : World} {id : Nat} {ob : HObj} {l : Loc} (h : Rel m s w) (hi : s id = some ob) (hl : m.loc id = some l)
    (hb : ∀ b, b ≠ l.b → w'.heap[b]? = w.heap[b]?) (hos : w'.os = w.os) (htp : w'.tape = w.tape) (hout : w'.output = w.output) (hsz : w.heap.size ≤ w'.heap.size) : Rel m (s.del id) w' := by
  obtain ⟨hge, hnc⟩ := h.own id ob l hi hl
  have old : ∀ k o, (s.del id) k = some o → k ≠ id ∧ s k = some o := by
    intro k o hk
    simp only [HS.del] at hk
    split at hk
    · cases hk
    · exact ⟨by assumption, hk⟩
  refine ⟨⟨hos.trans h.below.os, htp.trans h.below.tape, hout.trans h.below.output, fun k hk => ⟨Nat.lt_of_lt_of_le (h.below.block k hk).1 hsz, (hb k (by rintro rfl; exact hge hk)).trans (h.below.block k hk).2⟩⟩, ?_, ?_, ?_, ?_, ?_⟩
  · intro b o v hc
    have hne : b ≠ l.b := fun e => by rw [e, hnc o] at hc; cases hc
    exact (cell_block (hb b hne)).trans (h.com b o v hc)
  · intro id2 ob2 l2 hi2 hl2
    obtain ⟨hne, hi2⟩ := old _ _ hi2
    exact (h.objs id2 ob2 l2 hi2 hl2).of_block (hb _ (fun e => hne (h.inj id2 id ob2 ob l2 l hi2 hi hl2 hl e)))
  · intro id2 ob2 l2 hi2 hl2
    exact h.own id2 ob2 l2 (old _ _ hi2).2 hl2
  · intro a b oa ob2 la lb ha hb2 hla hlb hab
    exact h.inj a b oa ob2 la lb (old _ _ ha).2 (old _ _ hb2).2 hla hlb hab
  · obtain ⟨N, hN⟩ := h.fin
    refine ⟨N, fun k hk => ⟨?_, (hN k hk).2⟩⟩
    simp only [HS.del]
    split
    · rfl
    · exact (hN k hk).1
/-- A block is laid that will lie still. -/
theorem Rel.mark {m : M} {s : HS} {w : World} (h : Rel m s w) (o : Obj) : M.le m { m with w0 := w.alloc o, fix := ⟨fun k => m.fix k ∨ k = w.heap.size, m.fix.old, fun k hk => .inl (m.fix.sub k hk)⟩ } ∧ Rel { m with w0 := w.alloc o, fix := ⟨fun k => m.fix k ∨ k = w.heap.size, m.fix.old, fun k hk => .inl (m.fix.sub k hk)⟩ } s (w.alloc o) := by
  have hle : M.le m { m with w0 := w.alloc o, fix := ⟨fun k => m.fix k ∨ k = w.heap.size, m.fix.old, fun k hk => .inl (m.fix.sub k hk)⟩ } :=
    ⟨⟨h.below.os, h.below.tape, h.below.output⟩, fun k hk => ⟨.inl hk, (Below.heap_alloc w o k (h.below.block k hk).1).trans (h.below.block k hk).2⟩, rfl, fun _ _ _ x => x, fun _ _ x => x, rfl, fun _ _ => rfl⟩
  refine ⟨hle, ⟨rfl, rfl, rfl, fun k hk => ⟨?_, rfl⟩⟩, ?_, ?_, ?_, h.inj, h.fin⟩
  · rcases hk with hk | rfl
    · exact Nat.lt_of_lt_of_le (h.below.block k hk).1 (by simp)
    · simp
  · intro b o' v hc
    exact (cell_block (Below.heap_alloc w o b (cell_lt (h.com _ _ _ hc)))).trans (h.com _ _ _ hc)
  · intro id ob l hi hl
    have := h.objs id ob l hi hl
    exact (this.mono hle).of_block (Below.heap_alloc w o l.b this.lt)
  · intro id ob l hi hl
    refine ⟨?_, (h.own id ob l hi hl).2⟩
    rintro (hf | hf)
    · exact (h.own id ob l hi hl).1 hf
    · have := (h.objs id ob l hi hl).lt
      omega
/-- If, then, else: of a form that the kernel takes apart ahead of what stands within. -/
abbrev hite (c : Prop) [d : Decidable c] (t e : Prop) : Prop := match d with | .isTrue _ => t | .isFalse _ => e
theorem hite_eq (c : Prop) [d : Decidable c] (t e : Prop) : hite c t e = if c then t else e := by
  unfold hite
  cases d <;> rfl
end Go.Proofs.Ythfoanmokcepcaa.H
namespace Go.Proofs.Ythfoanmokcepcaa.H
open Go.RowKit Go.MapKept
set_option linter.unusedVariables false
set_option linter.unusedSimpArgs false
def hev (env : List HV) : Operand → HV
  | .tmp t => env.getD t (.lit undef)
  | .const v => .lit v
  | .global _ => .junk
  | .func f => .func (.func f) []
structure EnvRep (m : M) (env : List HV) (a : Act) : Prop where
  size : a.tmps.size = env.length
  rep : ∀ t x, env[t]? = some x → Rep m x (a.tmps.getD t undef)
  defers : Marks m a.defers
theorem EnvRep.eval {m : M} {env : List HV} {a : Act} (h : EnvRep m env a) (x : Operand) : Rep m (hev env x) (a.eval x) := by
  cases x with
  | tmp t =>
    simp only [hev, Act.eval, List.getD]
    cases hx : env[t]? with
    | none =>
      have : env.length ≤ t := List.getElem?_eq_none_iff.1 hx
      have h2 : a.tmps.getD t undef = undef := by simp [Array.getD, h.size, Nat.not_lt.2 this]
      rw [h2]; exact .lit _
    | some v => exact h.rep t v hx
  | const v => exact .lit v
  | global g => exact .junk _
  | func f => exact .func _ [] #[] rfl (fun j x hj => by simp at hj)
theorem EnvRep.mono {m m' : M} {env : List HV} {a : Act} (h : EnvRep m env a) (hm : M.le m m') : EnvRep m' env a := ⟨h.size, fun t x hx => (h.rep t x hx).mono hm, h.defers.mono hm⟩
def hput (env : List HV) (d : Option Tmp) (v : HV) : List HV := match d with | some d => env.set d v | none => env
theorem EnvRep.put {m : M} {env : List HV} {a : Act} (h : EnvRep m env a) {v : HV} {cv : Value} (hv : Rep m v cv) (d : Option Tmp) : EnvRep m (hput env d v) (a.put d cv) := by
  cases d with
  | none => exact h
  | some d =>
    refine ⟨by simp [Act.put, hput, h.size], fun t x hx => ?_, h.defers⟩
    simp only [hput] at hx
    by_cases hdt : d = t
    · subst hdt
      have hlt : d < env.length := by
        rcases Nat.lt_or_ge d env.length with h' | h'
        · exact h'
        · simp [List.getElem?_eq_none (show (env.set d v).length ≤ d by simpa using h')] at hx
      have hx' : v = x := by simpa [hlt] using hx
      subst hx'
      have : (a.put (some d) cv).tmps.getD d undef = cv := by simp [Act.put, h.size, hlt]
      rw [this]; exact hv
    · rw [List.getElem?_set_ne hdt] at hx
      have : (a.put (some d) cv).tmps.getD t undef = a.tmps.getD t undef := by simp [Act.put, Array.getElem?_setIfInBounds_ne hdt]
      rw [this]; exact h.rep t x hx
/-- The cells of a value. -/
def hcells : HV → Option (List HV)
  | .agg cs => some cs
  | .lit v => if v.cells.toList.all Value.oneCell' then some (v.cells.toList.map .lit) else none
  | .junk => none
  | .tup _ => none
  | x => some [x]
theorem Rep.one {m : M} {x : HV} {v : Value} (h : Rep m x v) (hx : hone x = true) : v.oneCell' = true := by
  cases h <;> first | exact hx | rfl | (simp [hone] at hx; done)
theorem ones_lits {vs : List Value} (h : vs.all Value.oneCell' = true) : Ones (vs.map .lit) := by
  intro x hx
  obtain ⟨v, hv, rfl⟩ := List.mem_map.1 hx
  exact List.all_eq_true.1 h v hv
theorem reps_lits (m : M) {vs : List Value} (h : vs.all Value.oneCell' = true) : Reps m (vs.map .lit) vs := by
  refine ⟨ones_lits h, by simp, fun j z hj => ?_⟩
  simp only [List.getElem?_map] at hj
  cases hv : vs[j]? with
  | none => rw [hv] at hj; cases hj
  | some u =>
    rw [hv] at hj
    simp only [Option.map_some, Option.some.injEq] at hj
    subst hj
    have : vs.getD j undef = u := by simp [List.getD, hv]
    rw [this]; exact .lit u
theorem Reps.one {m : M} {xs : List HV} {vs : List Value} (h : Reps m xs vs) : ∀ v ∈ vs, v.oneCell' = true := by
  intro v hv
  obtain ⟨j, hj⟩ := List.getElem?_of_mem hv
  have hlt := (List.getElem?_eq_some_iff.1 hj).1
  have hlt2 : j < xs.length := by rw [← h.2.1]; exact hlt
  have h1 := h.2.2 j xs[j] (by simp [hlt2])
  have : vs.getD j undef = v := by simp [List.getD, hj]
  rw [this] at h1
  exact h1.one (h.1 _ (List.getElem_mem hlt2))
theorem Rep.cells {m : M} {x : HV} {v : Value} (h : Rep m x v) {cs : List HV} (hc : hcells x = some cs) : Reps m cs v.cells.toList := by
  have single : ∀ y u, Rep m y u → hone y = true → u.cells = #[u] → Reps m [y] u.cells.toList := fun y u hr ho hu => by
    rw [hu]
    refine ⟨fun z hz => by simp at hz; subst hz; exact ho, rfl, fun j z hj => ?_⟩
    cases j with
    | zero => simp at hj; subst hj; exact hr
    | succ j => simp at hj
  cases h with
  | lit v =>
    simp only [hcells] at hc
    split at hc
    · rename_i ha
      cases hc
      exact reps_lits m ha
    · cases hc
  | junk v => cases hc
  | agg cs' vs ho hs hr => simp only [hcells, Option.some.injEq] at hc; subst hc; exact ⟨ho, by simpa [Value.cells] using hs, fun j z hj => by have := hr j z hj; simpa [Value.cells, List.getD] using this⟩
  | tup cs vs hs hr => cases hc
  | ptr id off l hl => simp only [hcells, Option.some.injEq] at hc; subst hc; exact single _ _ (.ptr id off l hl) rfl rfl
  | elt cs off b o f h0 h1 h2 => simp only [hcells, Option.some.injEq] at hc; subst hc; exact single _ _ (.elt cs off b o f h0 h1 h2) rfl rfl
  | list0 sz a cap full hf => simp only [hcells, Option.some.injEq] at hc; subst hc; exact single _ _ (.list0 sz a cap full hf) rfl rfl
  | nils cap => simp only [hcells, Option.some.injEq] at hc; subst hc; exact single _ _ (.nils cap) rfl rfl
  | ne sz a cap => simp only [hcells, Option.some.injEq] at hc; subst hc; exact single _ _ (.ne sz a cap) rfl rfl
  | list sz n cs full cap b o f h1 h2 h3 h0 h4 h5 => simp only [hcells, Option.some.injEq] at hc; subst hc; exact single _ _ (.list sz n cs full cap b o f h1 h2 h3 h0 h4 h5) rfl rfl
  | view0 id off sz full a he => simp only [hcells, Option.some.injEq] at hc; subst hc; exact single _ _ (.view0 id off sz full a he) rfl rfl
  | view id off sz n full cap l h1 h2 h3 h4 h5 => simp only [hcells, Option.some.injEq] at hc; subst hc; exact single _ _ (.view id off sz n full cap l h1 h2 h3 h4 h5) rfl rfl
  | map id l hl => simp only [hcells, Option.some.injEq] at hc; subst hc; exact single _ _ (.map id l hl) rfl rfl
  | func fn cs vs hs hr => simp only [hcells, Option.some.injEq] at hc; subst hc; exact single _ _ (.func fn cs vs hs hr) rfl rfl
  | yld id l hl => simp only [hcells, Option.some.injEq] at hc; subst hc; exact single _ _ (.yld id l hl) rfl rfl
def vPick (c a b : HV) : Option HV :=
  match c with
  | .lit (.bool true) => some a
  | .lit (.bool false) => some b
  | _ => none
def vNil : HV → Option HV
  | .ptr id off => some (.ptr id off)
  | .elt cs off => some (.elt cs off)
  | .func (.func f) caps => some (.func (.func f) caps)
  | .yld id => some (.yld id)
  | _ => none
def vBin (op : BinOp) (x y : HV) : Option HV :=
  match x, y with
  | .lit (.int k a), .lit (.int k' b) =>
    (match op with
    | .shl => if b < 0 then none else some (.lit (.int k (k.wrap (a * 2 ^ (min b.toNat k.bits)))))
    | .shr => if b < 0 then none else some (.lit (.int k (a.fdiv (2 ^ (min b.toNat k.bits)))))
    | op => if k = k' then (match op with
      | .add => some (.lit (.int k (k.wrap (a + b))))
      | .sub => some (.lit (.int k (k.wrap (a - b))))
      | .mul => some (.lit (.int k (k.wrap (a * b))))
      | .quo => if b = 0 then none else some (.lit (.int k (k.wrap (a.tdiv b))))
      | .rem => if b = 0 then none else some (.lit (.int k (a.tmod b)))
      | .and => some (.lit (.int k (bits .and k a b)))
      | .or => some (.lit (.int k (bits .or k a b)))
      | .xor => some (.lit (.int k (bits .xor k a b)))
      | .andNot => some (.lit (.int k (bits .andNot k a b)))
      | .eql => some (.lit (.bool (a == b)))
      | .neq => some (.lit (.bool (a != b)))
      | .lss => some (.lit (.bool (a < b)))
      | .leq => some (.lit (.bool (a ≤ b)))
      | .gtr => some (.lit (.bool (a > b)))
      | .geq => some (.lit (.bool (a ≥ b)))
      | _ => none) else none)
  | .lit (.string a), .lit (.string b) =>
    (match op with
    | .add => if ((a.size + b.size : Nat) : Int) > IntKind.i64.max then none else some (.lit (.string (a ++ b)))
    | .eql => some (.lit (.bool (a.toList == b.toList)))
    | .neq => some (.lit (.bool (!(a.toList == b.toList))))
    | .lss => some (.lit (.bool (Op.bytesLess a.toList b.toList)))
    | .leq => some (.lit (.bool (Op.bytesLess a.toList b.toList || a.toList == b.toList)))
    | .gtr => some (.lit (.bool (!(Op.bytesLess a.toList b.toList || a.toList == b.toList))))
    | .geq => some (.lit (.bool (!(Op.bytesLess a.toList b.toList))))
    | _ => none)
  | _, _ => none
/-- Equality of what is neither a number nor a text. -/
def vEq (d : Option TypeDesc) (x y : HV) : Option Bool :=
  match d with
  | some .bool => (match x, y with | .lit (.bool a), .lit (.bool b) => some (a == b) | _, _ => none)
  | some (.pointer _) => (match x, y with
    | .lit (.pointer none), .lit (.pointer none) => some true
    | .ptr _ _, .lit (.pointer none) => some false
    | .elt _ _, .lit (.pointer none) => some false
    | .lit (.pointer none), .ptr _ _ => some false
    | .lit (.pointer none), .elt _ _ => some false
    | _, _ => none)
  | some (.slice _) => (match x, y with
    | .lit (.slice none _ _), .lit (.slice none _ _) => some true
    | .list _ (n + 1) _ _, .lit (.slice none _ _) => some false
    | .ne _, .lit (.slice none _ _) => some false
    | .nils, .lit (.slice none _ _) => some true
    | .view _ _ _ _ _, .lit (.slice none _ _) => some false
    | _, _ => none)
  | some (.map _ _) => (match x, y with
    | .lit (.map none), .lit (.map none) => some true
    | .map _, .lit (.map none) => some false
    | _, _ => none)
  | some (.func _ _ _) => (match x, y with
    | .lit .nilFunc, .lit .nilFunc => some true
    | .func _ _, .lit .nilFunc => some false
    | .yld _, .lit .nilFunc => some false
    | _, _ => none)
  | _ => none
def vCmp (d : Option TypeDesc) (op : BinOp) (x y : HV) : Option HV :=
  match op with
  | .eql => (match vBin .eql x y with | some v => some v | none => (vEq d x y).map fun b => .lit (.bool b))
  | .neq => (match vBin .neq x y with | some v => some v | none => (vEq d x y).map fun b => .lit (.bool (!b)))
  | op => vBin op x y
/-- Two structs of plain fields, told by their kinds. -/
def flatEq1 (d : TypeDesc) (x y : HV) : Option Bool :=
  match d, x, y with
  | .int _, .lit (.int k a), .lit (.int k' b) => if k = k' then some (a == b) else none
  | .string, .lit (.string a), .lit (.string b) => some (a.toList == b.toList)
  | .bool, .lit (.bool a), .lit (.bool b) => some (a == b)
  | _, _, _ => none
def flatEq : List TypeDesc → List HV → List HV → Option Bool
  | [], [], [] => some true
  | d :: ds, x :: xs, y :: ys => (match flatEq1 d x y, flatEq ds xs ys with | some a, some b => some (a && b) | _, _ => none)
  | _, _, _ => none
def flatCells : HV → Option (List HV)
  | .agg cs => some cs
  | .lit (.agg vs) => some (vs.toList.map .lit)
  | _ => none
def vCmpS (ds : List TypeDesc) (op : BinOp) (x y : HV) : Option HV :=
  match op, flatCells x, flatCells y with
  | .eql, some xs, some ys => (flatEq ds xs ys).map fun b => .lit (.bool b)
  | .neq, some xs, some ys => (flatEq ds xs ys).map fun b => .lit (.bool (!b))
  | _, _, _ => none
def vUn (op : UnOp) (x : HV) : Option HV :=
  match op, x with
  | .neg, .lit (.int k n) => some (.lit (.int k (k.wrap (0 - n))))
  | .xor, .lit (.int k n) => some (.lit (.int k (bits .xor k (if k.signed then -1 else k.max) n)))
  | .not, .lit (.bool b) => some (.lit (.bool (!b)))
  | _, _ => none
def vField (off : Nat) : HV → Option HV
  | .ptr id o => some (.ptr id (o + off))
  | .elt cs o => some (.elt cs (o + off))
  | _ => none
/-- Part of a value of cells. -/
def takeCells (cs : List HV) (off n : Nat) (ag : Bool) : Option HV :=
  if ag then (if off + n ≤ cs.length then some (.agg ((cs.drop off).take n)) else none) else cs[off]?
def vPart (off n : Nat) (ag : Bool) (x : HV) : Option HV :=
  match x with
  | .agg cs => takeCells cs off n ag
  | .lit (.agg vs) => if vs.toList.all Value.oneCell' then takeCells (vs.toList.map .lit) off n ag else none
  | _ => none
def vIdx (sz : Nat) (x i : HV) : Option HV :=
  match i with
  | .lit (.int _ i) => (match x with
    | .list _ n cs _ => if 0 ≤ i ∧ i < (n : Int) then some (.elt ((cs.drop (i.toNat * sz)).take sz) 0) else none
    | .view id off _ n _ => if 0 ≤ i ∧ i < (n : Int) then some (.ptr id (off + i.toNat * sz)) else none
    | _ => none)
  | _ => none
def vIdxArr (len sz : Nat) (x i : HV) : Option HV :=
  match i with
  | .lit (.int _ i) => (match x with
    | .ptr id off => if 0 ≤ i ∧ i < (len : Int) then some (.ptr id (off + i.toNat * sz)) else none
    | .elt cs off => if 0 ≤ i ∧ i < (len : Int) then some (.elt cs (off + i.toNat * sz)) else none
    | _ => none)
  | _ => none
def vStrIdx (x i : HV) : Option HV :=
  match i, x with
  | .lit (.int _ i), .lit (.string s) => if 0 ≤ i then (s[i.toNat]?).map fun b => .lit (.int .u8 b.toNat) else none
  | _, _ => none
def vAggIdx (len sz : Nat) (ag : Bool) (x i : HV) : Option HV :=
  match i with
  | .lit (.int _ i) => if 0 ≤ i ∧ i < (len : Int) then vPart (i.toNat * sz) sz ag x else none
  | _ => none
def intAt : Option HV → Option Int
  | some (.lit (.int _ i)) => some i
  | _ => none
/-- The bounds of a cut. -/
def cutAt (n : Nat) (lo hi mx : Option HV) : Option (Nat × Nat × Bool) :=
  match (match mx with | none => some none | some v => (intAt (some v)).map some), (match hi with | none => some (n : Int) | some v => intAt (some v)), (match lo with | none => some 0 | some v => intAt (some v)) with
  | some mo, some h, some l =>
    if 0 ≤ l ∧ l ≤ h ∧ h ≤ (n : Int) ∧ (hi.isNone = true → mx.isNone = true) then (match mo with
      | none => some (l.toNat, h.toNat, false)
      | some x => if x = h then some (l.toNat, h.toNat, true) else none)
    else none
  | _, _, _ => none
def isNilS : Value → Bool
  | .slice none n c => n == 0 && c == 0
  | _ => false
theorem isNilS_eq {v : Value} (h : isNilS v = true) : v = .slice none 0 0 := by
  unfold isNilS at h
  split at h
  · simp at h; obtain ⟨rfl, rfl⟩ := h; rfl
  · cases h
def vSlice (sz : Nat) (x : HV) (lo hi mx : Option HV) : Option HV :=
  match x with
  | .list k n cs full => if k = sz then (cutAt n lo hi mx).map fun (l, h, f) => .list sz (h - l) ((cs.drop (l * sz)).take ((h - l) * sz)) (f || (full && h == n)) else none
  | .view id off k n full => if k = sz then (cutAt n lo hi mx).bind fun (l, h, f) => if f && (h != l && !(full && h == n)) then none else some (.view id (off + l * sz) sz (h - l) (f || (full && h == n))) else none
  | .lit v => if isNilS v then (cutAt 0 lo hi mx).map fun _ => .lit (.slice none 0 0) else none
  | .nils => (cutAt 0 lo hi mx).map fun _ => .nils
  | _ => none
def vStrSlice (x : HV) (lo hi : Option HV) : Option HV :=
  match x with
  | .lit (.string s) => (cutAt s.size lo hi none).map fun (l, h, _) => .lit (.string (s.extract l h))
  | _ => none
def vExtract (x : HV) (i : Nat) : Option HV :=
  match x with
  | .tup vs => vs[i]?
  | .lit (.tuple vs) => (vs[i]?).map .lit
  | _ => none
def vLen (s : HS) : HV → Option HV
  | .ne _ => some (.lit (.int .i64 0))
  | .nils => some (.lit (.int .i64 0))
  | .list _ n _ _ => some (.lit (.int .i64 n))
  | .view _ _ _ n _ => some (.lit (.int .i64 n))
  | .lit (.slice _ n _) => some (.lit (.int .i64 n))
  | .lit (.string b) => some (.lit (.int .i64 b.size))
  | .lit (.map none) => some (.lit (.int .i64 0))
  | .map id => (match s id with | some (.map _ _ n) => some (.lit (.int .i64 n)) | _ => none)
  | _ => none
def vMax2 : HV → HV → Option HV
  | .lit (.int k x), .lit (.int _ y) => some (.lit (.int k (if y > x then y else x)))
  | _, _ => none
def vMin2 : HV → HV → Option HV
  | .lit (.int k x), .lit (.int _ y) => some (.lit (.int k (if y < x then y else x)))
  | _, _ => none
def vLoad (s : HS) (p : HV) (n : Nat) (ag : Bool) : Option HV :=
  match p with
  | .ptr id off => (match s id with | some (.cells cs) => takeCells cs off n ag | _ => none)
  | .elt cs off => takeCells cs off n ag
  | _ => none
/-- The cells of a slice. -/
def litCells (sz : Nat) : Value → Option (List HV)
  | .slice none n _ => if n = 0 then some [] else none
  | .string b => if sz = 1 then some (b.data.toList.map fun c => .lit (.int .u8 c.toNat)) else none
  | _ => none
def lcells (s : HS) (sz : Nat) : HV → Option (List HV)
  | .ne k => if k = sz then some [] else none
  | .nils => some []
  | .list k n cs _ => if k = sz then some cs else none
  | .view id off k n _ => (match s id with | some (.cells cs) => if k = sz ∧ off + n * sz ≤ cs.length then some ((cs.drop off).take (n * sz)) else none | _ => none)
  | .lit v => litCells sz v
  | _ => none
def byteOfHV : HV → Option UInt8
  | .lit (.int .u8 n) => some (UInt8.ofNat n.toNat)
  | _ => none
def bytesOf (cs : List HV) : Option (List UInt8) := cs.mapM byteOfHV
def vToStr (s : HS) (x : HV) : Option HV := ((lcells s 1 x).bind bytesOf).map fun b => .lit (.string ⟨b.toArray⟩)
def vToInt (k : IntKind) : HV → Option HV
  | .lit (.int _ n) => some (.lit (.int k (k.wrap n)))
  | _ => none
def vIsStr : HV → Option HV
  | .lit (.string b) => some (.lit (.string b))
  | _ => none
def sameKey : TypeDesc → TypeDesc → Bool
  | .int k, .int k' => k == k'
  | .string, .string => true
  | .bool, .bool => true
  | _, _ => false
def vLookup (s : HS) (d : Option TypeDesc) (zero : HV) (x k : HV) (ok : Bool) : Option HV :=
  match k, d with
  | .lit k, some d => if keyIs d k then (match x with
    | .lit (.map none) => some (if ok then .tup [zero, .lit (.bool false)] else zero)
    | .map id => (match s id with
      | some (.map d' f _) => if sameKey d' d then some (if ok then .tup [(f k).getD zero, .lit (.bool (f k).isSome)] else (f k).getD zero) else none
      | _ => none)
    | _ => none) else none
  | _, _ => none
/-- Parts laid into cells. -/
def hfill (place : Nat → Option (Nat × Nat)) (cs : List HV) : List (Nat × HV) → Option (List HV)
  | [] => some cs
  | (i, v) :: rest =>
    match place i, hcells v with
    | some (off, size), some vs => if vs.length = size ∧ off + vs.length ≤ cs.length then hfill place (cs.take off ++ vs ++ cs.drop (off + vs.length)) rest else none
    | _, _ => none
end Go.Proofs.Ythfoanmokcepcaa.H
namespace Go.Proofs.Ythfoanmokcepcaa.H
open Go.RowKit Go.MapKept
set_option linter.unusedVariables false
set_option linter.unusedSimpArgs false
variable {P : Program} {m : M} {s : HS} {w : World}
theorem rb {α β : Type} {x : Sem α} {f : α → Sem β} {a : α} {w' : World} (h : x.run P w = .ok a w') : (x >>= f).run P w = (f a).run P w' := by
  show (x.bind f).run P w = _
  rw [Sem.run_bind', h]; rfl
theorem vPick_ok {c a b v : HV} {cc ca cb : Value} (h : vPick c a b = some v) (hc : Rep m c cc) (ha : Rep m a ca) (hb : Rep m b cb) :
    ∃ cv, (do pure (.value (if ← asBool cc then ca else cb)) : Sem Next).run P w = .ok (.value cv) w ∧ Rep m v cv := by
  unfold vPick at h
  split at h
  · cases hc; cases h; exact ⟨ca, by simp [asBool], ha⟩
  · cases hc; cases h; exact ⟨cb, by simp [asBool], hb⟩
  · cases h
theorem vBin_ok {t : TypeId} {op : BinOp} {x y v : HV} {cx cy : Value} (h : vBin op x y = some v) (hx : Rep m x cx) (hy : Rep m y cy) :
    ∃ cv, (binOp op t cx cy).run P w = .ok cv w ∧ Rep m v cv ∧ (∀ k k', eqGuard op t k k' cx cy = pure ()) := by
  unfold vBin at h
  split at h
  · cases hx; cases hy
    rename_i k a k' b
    have hg : ∀ (o1 o2 : Operand), eqGuard op t o1 o2 (.int k a) (.int k' b) = pure () := fun o1 o2 => by cases op <;> rfl
    cases op
    case shl => 
      simp only at h; split at h; cases h; rename_i hb; cases h
      exact ⟨_, by simp [binOp, Op.shift, hb], .lit _, hg⟩
    case shr => 
      simp only at h; split at h; cases h; rename_i hb; cases h
      exact ⟨_, by simp [binOp, Op.shift, hb], .lit _, hg⟩
    all_goals (simp only at h; split at h; rotate_left; cases h; rename_i hk; subst hk)
    case h_1.lit.lit.quo.isTrue => split at h; cases h; rename_i hb; cases h; exact ⟨_, by simp [binOp, Op.intDiv, hb], .lit _, hg⟩
    case h_1.lit.lit.rem.isTrue => split at h; cases h; rename_i hb; cases h; exact ⟨_, by simp [binOp, Op.intDiv, hb], .lit _, hg⟩
    all_goals first | (cases h; done) | (cases h; exact ⟨_, by simp [binOp, Op.intArith, Op.intCmp, intBits_and, intBits_or, intBits_xor, intBits_andNot], .lit _, hg⟩)
  · cases hx; cases hy
    rename_i a b
    have hg : ∀ (o1 o2 : Operand), eqGuard op t o1 o2 (.string a) (.string b) = pure () := fun o1 o2 => by cases op <;> rfl
    cases op
    case add => simp only at h; split at h; cases h; rename_i hb; cases h; exact ⟨_, by simp only [binOp, Op.stringOp]; rw [if_neg hb]; rfl, .lit _, hg⟩
    all_goals first | (cases h; done) | (cases h; exact ⟨_, by simp [binOp, Op.stringOp], .lit _, hg⟩)
  · cases h
theorem vEq_ok {t : TypeId} {x y : HV} {b : Bool} {cx cy : Value} (h : vEq (P.underlying t) x y = some b) (hx : Rep m x cx) (hy : Rep m y cy) :
    (binOp .eql t cx cy).run P w = .ok (.bool b) w ∧ (binOp .neq t cx cy).run P w = .ok (.bool (!b)) w ∧ ∀ op k k', eqGuard op t k k' cx cy = pure () := by
  have key : ∀ (a b : Value) (r : Bool), (∀ n, (Op.equalIn (n + 1) t a b).run P w = .ok r w) → (∀ op, binOp op t a b = match op with | .eql => (do pure (.bool (← Op.equal t a b))) | .neq => (do pure (.bool (!(← Op.equal t a b)))) | op => binOp op t a b) → 
      (∀ op k k', eqGuard op t k k' a b = pure ()) → (binOp .eql t a b).run P w = .ok (.bool r) w ∧ (binOp .neq t a b).run P w = .ok (.bool (!r)) w ∧ ∀ op k k', eqGuard op t k k' a b = pure () := by
    intro a b r h1 h2 h3
    have h4 := h1 9999
    refine ⟨?_, ?_, h3⟩
    · rw [h2 .eql]; simp [Op.equal, Op.maxDepth, h4]
    · rw [h2 .neq]; simp [Op.equal, Op.maxDepth, h4]
  unfold vEq at h
  cases hd : P.underlying t with
  | none => rw [hd] at h; cases h
  | some d =>
    rw [hd] at h
    cases d <;> simp only at h <;> try (cases h; done)
    all_goals (split at h <;> first | (cases h; done) | skip)
    all_goals (cases h; cases hx <;> cases hy <;> (refine key _ _ _ (fun n => ?_) (fun op => by cases op <;> rfl) (fun op k k' => by cases op <;> rfl); simp [Op.equalIn, run_underlying hd]))
theorem vCmp_ok {t : TypeId} {op : BinOp} {x y v : HV} {cx cy : Value} (h : vCmp (P.underlying t) op x y = some v) (hx : Rep m x cx) (hy : Rep m y cy) :
    ∃ cv, (binOp op t cx cy).run P w = .ok cv w ∧ Rep m v cv ∧ (∀ k k', eqGuard op t k k' cx cy = pure ()) := by
  have hb : ∀ {op}, vBin op x y = some v → _ := fun {op} h => vBin_ok (P := P) (w := w) (t := t) (op := op) h hx hy
  unfold vCmp at h
  cases op
  case eql =>
    simp only at h
    split at h
    · rename_i u hu; cases h; exact hb hu
    · cases hq : vEq (P.underlying t) x y with
      | none => rw [hq] at h; cases h
      | some b =>
        rw [hq] at h; cases h
        obtain ⟨h1, h2, h3⟩ := vEq_ok (w := w) hq hx hy
        exact ⟨_, h1, .lit _, h3 _⟩
  case neq =>
    simp only at h
    split at h
    · rename_i u hu; cases h; exact hb hu
    · cases hq : vEq (P.underlying t) x y with
      | none => rw [hq] at h; cases h
      | some b =>
        rw [hq] at h; cases h
        obtain ⟨h1, h2, h3⟩ := vEq_ok (w := w) hq hx hy
        exact ⟨_, h2, .lit _, h3 _⟩
  all_goals exact hb h
theorem vUn_ok {op : UnOp} {x v : HV} {cx : Value} (h : vUn op x = some v) (hx : Rep m x cx) : ∃ cv, (Op.unary op cx).run P w = .ok cv w ∧ Rep m v cv := by
  unfold vUn at h
  split at h
  · cases hx; cases h; exact ⟨_, by simp [Op.unary, Op.intArith], .lit _⟩
  · cases hx; cases h; exact ⟨_, by simp [Op.unary, intBits_xor], .lit _⟩
  · cases hx; cases h; exact ⟨_, by simp [Op.unary], .lit _⟩
  · cases h
/-- A type's size, whether it is one of cells, its zero, its element. -/
def tSize (P : Program) (t : TypeId) : Option Nat := (P.info? t).map (·.size)
def tAgg (P : Program) (t : TypeId) : Option Bool := match P.underlying t with | some (.struct _) | some (.array _ _) => some true | some _ => some false | none => none
def tZero (P : Program) (t : TypeId) : Option Value := (P.info? t).bind (·.zero)
def tBytes (P : Program) (t : TypeId) : Option Nat := (P.info? t).map (·.bytes)
def tField (P : Program) (t : TypeId) (f : Nat) : Option (TypeId × Nat) := match P.underlying t with | some (.struct fs) => (fs[f]?).map fun x => (x.type, x.offset) | _ => none
def tElem (P : Program) (t : TypeId) : Option TypeId := match P.underlying t with | some (.slice e) => some e | _ => none
theorem tSize_run {t : TypeId} {n : Nat} (h : tSize P t = some n) : (sizeOf t).run P w = .ok n w := by
  unfold tSize at h
  cases hi : P.info? t with
  | none => rw [hi] at h; cases h
  | some i => rw [hi] at h; cases h; simp [sizeOf, typeInfo, hi]
theorem tAgg_run {t : TypeId} {b : Bool} (h : tAgg P t = some b) : (isAgg t).run P w = .ok b w := by
  unfold tAgg at h
  split at h <;> first | (cases h; done) | skip
  all_goals (rename_i hd)
  · cases h; simp [isAgg, run_underlying hd]
  · cases h; simp [isAgg, run_underlying hd]
  · cases h
    rename_i d h1 h2
    cases d <;> first | (exact (h1 _ rfl).elim) | (exact (h2 _ _ rfl).elim) | (simp [isAgg, run_underlying hd]; done)
/-- The kinds of a struct's fields, when they are plain. -/
def flatDs (P : Program) : List Field → Nat → Option (List TypeDesc)
  | [], _ => some []
  | f :: fs, i => if f.name != "_" && f.offset == i then (match P.underlying f.type, flatDs P fs (i + 1) with
    | some (.int k), some ds => some (.int k :: ds)
    | some .string, some ds => some (.string :: ds)
    | some .bool, some ds => some (.bool :: ds)
    | _, _ => none) else none
def flatD (P : Program) (t : TypeId) : Option (List TypeDesc) :=
  match P.underlying t with
  | some (.struct fs) => if P.stoodInHeld t || P.eqGuardType P.depth t then none else flatDs P fs.toList 0
  | _ => none
theorem flatEq1_ok {d : TypeDesc} {t : TypeId} {x y : HV} {b : Bool} {cx cy : Value} {n : Nat} (ht : P.underlying t = some d) (h : flatEq1 d x y = some b) (hx : Rep m x cx) (hy : Rep m y cy) : (Op.equalIn (n + 1) t cx cy).run P w = .ok b w := by
  unfold flatEq1 at h
  split at h
  · rename_i k0 k a k' c
    split at h
    · rename_i hk; subst hk; cases h; cases hx; cases hy; exact run_equalIn_int w n t k k0 a c ht
    · cases h
  · cases h; cases hx; cases hy; exact run_equalIn_string w n t _ _ ht
  · cases h; cases hx; cases hy; exact run_equalIn_bool' w n t _ _ ht
  · cases h
def flatK : TypeDesc → Bool
  | .int _ => true
  | .string => true
  | .bool => true
  | _ => false
theorem partF_ok {t : TypeId} {d : TypeDesc} (ht : P.underlying t = some d) (hd : flatK d = true) {vs : Array Value} {i : Nat} (hi : i < vs.size) : (part t vs i).run P w = .ok (vs.getD i undef) w := by
  have ha : tAgg P t = some false := by
    unfold tAgg
    rw [ht]
    cases d <;> first | (cases hd; done) | rfl
  unfold part
  rw [rb (tAgg_run ha)]
  simp [hi, Array.getD]
theorem flatEq_ok {n : Nat} {vx vy : Array Value} : ∀ (fs : List Field) (ds : List TypeDesc) (i : Nat) (xs ys : List HV) (b : Bool), flatDs P fs i = some ds → flatEq ds xs ys = some b → (∀ j x, xs[j]? = some x → i + j < vx.size ∧ Rep m x (vx.getD (i + j) undef)) →
    (∀ j x, ys[j]? = some x → i + j < vy.size ∧ Rep m x (vy.getD (i + j) undef)) → (Op.eqFields (n + 1) vx vy fs).run P w = .ok b w
  | [], ds, i, xs, ys, b, hd, h, hx, hy => by
    simp only [flatDs, Option.some.injEq] at hd
    subst hd
    unfold flatEq at h
    split at h
    · cases h; simp [Op.eqFields]
    · rename_i he; cases he
    · cases h
  | f :: fs, ds, i, xs, ys, b, hd, h, hx, hy => by
    simp only [flatDs] at hd
    split at hd
    case isFalse => cases hd
    rename_i hf
    simp only [Bool.and_eq_true, bne_iff_ne, ne_eq, beq_iff_eq] at hf
    obtain ⟨hf1, hf2⟩ := hf
    obtain ⟨d, ds', ht, hds, hk, rfl⟩ : ∃ d ds', P.underlying f.type = some d ∧ flatDs P fs (i + 1) = some ds' ∧ flatK d = true ∧ ds = d :: ds' := by
      split at hd <;> first | (cases hd; done) | skip
      all_goals (rename_i h1 h2; cases hd; exact ⟨_, _, h1, h2, rfl, rfl⟩)
    unfold flatEq at h
    split at h
    · rename_i he; cases he
    · rename_i d0 ds0 x xs y ys he
      cases he
      split at h
      case h_2 => cases h
      rename_i a c h1 h2
      cases h
      obtain ⟨x1, x2⟩ := hx 0 x rfl
      obtain ⟨y1, y2⟩ := hy 0 y rfl
      rw [Nat.add_zero] at x1 x2 y1 y2
      have ih := flatEq_ok (n := n) fs _ (i + 1) xs ys c hds h2 (fun j z hj => by have := hx (j + 1) z (by simpa using hj); rw [show i + 1 + j = i + (j + 1) by omega]; exact this) (fun j z hj => by have := hy (j + 1) z (by simpa using hj); rw [show i + 1 + j = i + (j + 1) by omega]; exact this)
      rw [Op.eqFields, if_pos hf1, hf2, rb (partF_ok ht hk x1), rb (partF_ok ht hk y1), rb (flatEq1_ok (n := n) ht h1 x2 y2)]
      cases a
      · rfl
      · simpa using ih
    · cases h
theorem flatCells_ok {x : HV} {xs : List HV} {cx : Value} (h : flatCells x = some xs) (hx : Rep m x cx) : ∃ vs : Array Value, cx = .agg vs ∧ ∀ (j : Nat) z, xs[j]? = some z → 0 + j < vs.size ∧ Rep m z (vs.getD (0 + j) undef) := by
  unfold flatCells at h
  split at h
  · cases h
    cases hx with
    | agg cs vs ho hs hr =>
      refine ⟨vs, rfl, fun j z hj => ?_⟩
      have := (List.getElem?_eq_some_iff.1 hj).1
      rw [Nat.zero_add]
      exact ⟨by omega, hr j z hj⟩
  · cases h
    cases hx
    rename_i vs
    refine ⟨vs, rfl, fun j z hj => ?_⟩
    have hlt := (List.getElem?_eq_some_iff.1 hj).1
    rw [List.length_map] at hlt
    have hlt2 : j < vs.size := by simpa using hlt
    rw [List.getElem?_map, List.getElem?_eq_getElem hlt] at hj
    cases hj
    rw [Nat.zero_add]
    refine ⟨hlt2, ?_⟩
    have : vs.getD j undef = vs.toList[j] := by simp [Array.getD, hlt2]
    rw [this]
    exact .lit _
  · cases h
theorem vCmpS_ok {t : TypeId} {ds : List TypeDesc} {op : BinOp} {x y v : HV} {cx cy : Value} (hd : flatD P t = some ds) (h : vCmpS ds op x y = some v) (hx : Rep m x cx) (hy : Rep m y cy) :
    ∃ cv, (binOp op t cx cy).run P w = .ok cv w ∧ Rep m v cv ∧ (∀ k k', (eqGuard op t k k' cx cy).run P w = .ok () w) := by
  unfold flatD at hd
  split at hd
  case h_2 => cases hd
  rename_i fs hu
  split at hd
  · cases hd
  rename_i hg
  simp only [Bool.or_eq_true, not_or, Bool.not_eq_true] at hg
  obtain ⟨hg1, hg2⟩ := hg
  have hfo : P.fieldsOf t = fs := by simp [Program.fieldsOf, hu]
  have run : ∀ {xs ys : List HV} {b : Bool}, flatCells x = some xs → flatCells y = some ys → flatEq ds xs ys = some b → ∃ vx vy, cx = .agg vx ∧ cy = .agg vy ∧ (Op.equalIn 10000 t (.agg vx) (.agg vy)).run P w = .ok b w := fun h1 h2 h3 => by
    obtain ⟨vx, rfl, k1⟩ := flatCells_ok h1 hx
    obtain ⟨vy, rfl, k2⟩ := flatCells_ok h2 hy
    refine ⟨vx, vy, rfl, rfl, ?_⟩
    rw [run_equalIn_struct w 9999 t vx vy (by rw [hfo]; exact hu) hg1, hfo]
    exact flatEq_ok (n := 9998) fs.toList ds 0 _ _ _ hd h3 k1 k2
  unfold vCmpS at h
  split at h
  · rename_i xs ys h1 h2
    cases hq : flatEq ds xs ys with
    | none => rw [hq] at h; cases h
    | some b =>
      rw [hq] at h; cases h
      obtain ⟨vx, vy, rfl, rfl, hr⟩ := run h1 h2 hq
      exact ⟨.bool b, by rw [run_eql_struct, hr]; rfl, .lit _, fun k k' => run_eqGuard_agg w _ t k k' vx vy hg2⟩
  · rename_i xs ys h1 h2
    cases hq : flatEq ds xs ys with
    | none => rw [hq] at h; cases h
    | some b =>
      rw [hq] at h; cases h
      obtain ⟨vx, vy, rfl, rfl, hr⟩ := run h1 h2 hq
      exact ⟨.bool (!b), by rw [run_neq_struct, hr]; rfl, .lit _, fun k k' => run_eqGuard_agg w _ t k k' vx vy hg2⟩
  · cases h
theorem tZero_run {t : TypeId} {v : Value} (h : tZero P t = some v) : (zeroValue t).run P w = .ok v w := by
  unfold tZero at h
  cases hi : P.info? t with
  | none => rw [hi] at h; cases h
  | some i => rw [hi] at h; have h' : i.zero = some v := h; simp [zeroValue, typeInfo, hi, h']
theorem tElem_run {t e : TypeId} (h : tElem P t = some e) : P.underlying t = some (.slice e) := by
  unfold tElem at h
  split at h
  · rename_i hd; cases h; exact hd
  · cases h
theorem takeCells_ok {cs : List HV} {vs : List Value} {off n : Nat} {ag : Bool} {v : HV} (h : takeCells cs off n ag = some v) (hr : Reps m cs vs) :
    ∃ cv, Rep m v cv ∧ (ag = true → off + n ≤ vs.length ∧ cv = .agg ((vs.drop off).take n).toArray) ∧ (ag = false → vs[off]? = some cv) := by
  unfold takeCells at h
  cases ag
  · simp only [Bool.false_eq_true, if_false] at h
    refine ⟨vs.getD off undef, hr.2.2 off v h, (fun h => by cases h), fun _ => ?_⟩
    have hlt : off < vs.length := by rw [hr.2.1]; exact (List.getElem?_eq_some_iff.1 h).1
    simp [List.getD, hlt]
  · simp only [if_true] at h
    split at h
    · rename_i hle
      cases h
      have hle' : off + n ≤ vs.length := by rw [hr.2.1]; exact hle
      refine ⟨_, .agg _ ((vs.drop off).take n).toArray (fun x hx => hr.1 x (List.mem_of_mem_drop (List.mem_of_mem_take hx))) (by simp [hr.2.1]) ?_, fun _ => ⟨hle', rfl⟩, (fun h => by cases h)⟩
      intro j x hj
      have hj2 : j < n := by
        have := (List.getElem?_eq_some_iff.1 hj).1
        simp at this; omega
      have h3 : cs[off + j]? = some x := by
        rw [List.getElem?_take, if_pos hj2, List.getElem?_drop] at hj; exact hj
      have h4 := hr.2.2 _ _ h3
      have : ((vs.drop off).take n).toArray.getD j undef = vs.getD (off + j) undef := by
        have hlt : off + j < vs.length := by omega
        have hm : j < min n (vs.length - off) := by omega
        simp [List.getD, hlt, Array.getD, hm]
      rw [this]; exact h4
    · cases h
theorem add_loc (b o k : Nat) : (⟨b, o, none⟩ : Addr).add k = ⟨b, o + k, none⟩ := by
  unfold Addr.add
  split
  · rename_i h; subst h; rfl
  · rfl
theorem vField_ok {t f u off n : Nat} {x v : HV} {cx : Value} (hf : tField P t f = some (u, off)) (hn : tSize P u = some n) (hn0 : n ≠ 0) (h : vField off x = some v) (hx : Rep m x cx) :
    ∃ cv, (Instr.fieldAt t cx f).run P w = .ok cv w ∧ Rep m v cv := by
  unfold tField at hf
  split at hf
  · rename_i fs hd
    cases hfl : fs[f]? with
    | none => rw [hfl] at hf; cases hf
    | some fl =>
      rw [hfl] at hf
      simp only [Option.map_some, Option.some.injEq, Prod.mk.injEq] at hf
      obtain ⟨rfl, rfl⟩ := hf
      have hsz := tSize_run (P := P) (w := w) hn
      unfold vField at h
      split at h
      · rename_i id o
        cases h
        cases hx with
        | ptr _ _ l hl =>
        refine ⟨.pointer (some ⟨l.b, l.base + o + fl.offset, none⟩), ?_, ?_⟩
        rotate_left
        · rw [Nat.add_assoc]; exact .ptr _ _ _ hl
        · simp [Instr.fieldAt, run_underlying hd, hfl, Instr.sureAddr, fieldPlace, hsz, hn0, add_loc]
      · rename_i cs o
        cases h
        cases hx with
        | elt _ _ b o' g h0 h1 h2 =>
        refine ⟨.pointer (some ⟨b, o' + o + fl.offset, none⟩), ?_, ?_⟩
        rotate_left
        · rw [Nat.add_assoc]; exact .elt _ _ _ _ _ h0 h1 h2
        · simp [Instr.fieldAt, run_underlying hd, hfl, Instr.sureAddr, fieldPlace, hsz, hn0, add_loc]
      · cases h
  · cases hf
theorem aggOf {x v : HV} {off n : Nat} {ag : Bool} {cx : Value} (h : vPart off n ag x = some v) (hx : Rep m x cx) :
    ∃ vs : Array Value, cx = .agg vs ∧ ∃ cs, Reps m cs vs.toList ∧ takeCells cs off n ag = some v := by
  unfold vPart at h
  split at h
  · cases hx with
    | agg _ vs ho hs hr => exact ⟨vs, rfl, _, ⟨ho, by simpa using hs, fun j z hj => by have := hr j z hj; simpa [List.getD] using this⟩, h⟩
  · rename_i vs
    cases hx
    split at h
    · rename_i ha
      exact ⟨vs, rfl, _, reps_lits m ha, h⟩
    · cases h
  · cases h
theorem part_ok {t off n : Nat} {ag : Bool} {cs : List HV} {vs : Array Value} {v : HV} (hn : tSize P t = some n) (ha : tAgg P t = some ag) (hr : Reps m cs vs.toList) (h : takeCells cs off n ag = some v) :
    ∃ cv, (part t vs off).run P w = .ok cv w ∧ Rep m v cv := by
  obtain ⟨cv, h1, h2, h3⟩ := takeCells_ok h hr
  refine ⟨cv, ?_, h1⟩
  have ha' := tAgg_run (P := P) (w := w) ha
  have hn' := tSize_run (P := P) (w := w) hn
  cases ag
  · have h4 := h3 rfl
    have h5 : vs[off]? = some cv := by rw [← Array.getElem?_toList]; exact h4
    simp [part, ha', h5]
  · obtain ⟨h4, h5⟩ := h2 rfl
    have h6 : vs.extract off (off + n) = ((vs.toList.drop off).take n).toArray := by
      apply Array.ext'
      simp [List.take_drop]
    simp [part, ha', hn', h6, h5]
theorem loadCells_ok {a : Addr} {n : Nat} {f : Nat → Value} (h : ∀ j, j < n → w.cell? (a.add j) = some (f j)) :
    (loadCells a n).run P w = .ok ((List.range n).map f).toArray w := by
  have := run_loadCells (P := P) w a n f h
  simpa using this
/-- What a place holds, in the world. -/
theorem place_ok {p v : HV} {n : Nat} {ag : Bool} {cp : Value} (h : vLoad s p n ag = some v) (hR : Rel m s w) (hp : Rep m p cp) :
    ∃ b o cs vs, cp = .pointer (some ⟨b, o, none⟩) ∧ Reps m cs vs ∧ takeCells cs 0 n ag = some v ∧ ∀ j u, vs[j]? = some u → w.cell? ⟨b, o + j, none⟩ = some u := by
  have shift : ∀ (cs : List HV) (off : Nat), takeCells cs off n ag = some v → takeCells (cs.drop off) 0 n ag = some v := by
    intro cs off h
    unfold takeCells at h ⊢
    cases ag
    · simpa using h
    · simp only [if_true] at h ⊢
      split at h
      · rename_i hle
        rw [if_pos (by simp; omega)]
        simpa using h
      · cases h
  unfold vLoad at h
  split at h
  · rename_i id off
    split at h
    · rename_i cs hcs
      cases hp with
      | ptr _ _ l hl =>
        obtain ⟨h0, c, t, fr, h1, h2, h3, h4, h5⟩ := hR.objs _ _ _ hcs hl
        refine ⟨l.b, l.base + off, cs.drop off, (List.range (cs.length - off)).map fun j => c.getD (l.base + off + j) undef, rfl, ⟨fun x hx => h0 x (List.mem_of_mem_drop hx), by simp, fun j x hj => ?_⟩, shift _ _ h, fun j u hj => ?_⟩
        · rw [List.getElem?_drop] at hj
          have hlt : off + j < cs.length := (List.getElem?_eq_some_iff.1 hj).1
          have h6 := h5 _ _ hj
          have : ((List.range (cs.length - off)).map fun j => c.getD (l.base + off + j) undef).getD j undef = c.getD (l.base + (off + j)) undef := by
            have hj3 : j < cs.length - off := by omega
            simp [List.getD, List.getElem?_range, hj3, Nat.add_assoc]
          rw [this]; exact h6
        · have hj3 : j < cs.length - off := by have := (List.getElem?_eq_some_iff.1 hj).1; simpa using this
          rw [List.getElem?_map, List.getElem?_range hj3] at hj
          simp only [Option.map_some, Option.some.injEq] at hj
          subst hj
          have hlt : l.base + off + j < c.size := by omega
          simp [World.cell?, h1, hlt]
    · cases h
  · rename_i cs off
    cases hp with
    | elt _ _ b o f h0 hc hr =>
      refine ⟨b, o + off, cs.drop off, (List.range (cs.length - off)).map fun j => f (off + j), rfl, ⟨fun x hx => h0 x (List.mem_of_mem_drop hx), by simp, fun j x hj => ?_⟩, shift _ _ h, fun j u hj => ?_⟩
      · rw [List.getElem?_drop] at hj
        have hlt : off + j < cs.length := (List.getElem?_eq_some_iff.1 hj).1
        have h6 := hr _ _ hj
        have : ((List.range (cs.length - off)).map fun j => f (off + j)).getD j undef = f (off + j) := by
          have hj3 : j < cs.length - off := by omega
          simp [List.getD, List.getElem?_range, hj3]
        rw [this]; exact h6
      · have hj3 : j < cs.length - off := by have := (List.getElem?_eq_some_iff.1 hj).1; simpa using this
        rw [List.getElem?_map, List.getElem?_range hj3] at hj
        simp only [Option.map_some, Option.some.injEq] at hj
        subst hj
        rw [Nat.add_assoc]
        exact hR.com _ _ _ (hc _ (by omega))
  · cases h
theorem vLoad_ok {t n : Nat} {ag : Bool} {p v : HV} {cp : Value} (hn : tSize P t = some n) (ha : tAgg P t = some ag) (h : vLoad s p n ag = some v) (hR : Rel m s w) (hp : Rep m p cp) :
    ∃ cv, (Instr.loadAt t cp).run P w = .ok cv w ∧ Rep m v cv := by
  obtain ⟨b, o, cs, vs, rfl, hr, ht, hc⟩ := place_ok h hR hp
  obtain ⟨cv, h1, h2, h3⟩ := takeCells_ok ht hr
  refine ⟨cv, ?_, h1⟩
  have ha' := tAgg_run (P := P) (w := w) ha
  have hn' := tSize_run (P := P) (w := w) hn
  show (Instr.sureAddr _ >>= fun a => loadVar t a).run P w = _
  rw [rb (show (Instr.sureAddr (.pointer (some ⟨b, o, none⟩))).run P w = .ok ⟨b, o, none⟩ w from rfl)]
  unfold loadVar
  rw [rb ha']
  cases ag
  · have h4 := hc 0 cv (h3 rfl)
    show (load ⟨b, o, none⟩).run P w = .ok cv w
    simp only [load, Sem.run]
    rw [show w.cell? ⟨b, o, none⟩ = some cv from h4]
  · obtain ⟨h4, h5⟩ := h2 rfl
    have h6 := loadCells_ok (P := P) (w := w) (a := ⟨b, o, none⟩) (n := n) (f := fun j => vs.getD j undef) (fun j hj => by
      rw [add_loc]
      have hlt : j < vs.length := by omega
      refine hc j _ ?_
      simp [List.getD, hlt])
    have h7 : ((List.range n).map fun j => vs.getD j undef).toArray = ((vs.drop 0).take n).toArray := by
      apply Array.ext'
      simp only [List.drop_zero]
      apply List.ext_getElem
      · simp; omega
      · intro i hi1 hi2
        have hlt : i < vs.length := by simp at hi2; omega
        simp [List.getD, hlt]
    rw [if_pos rfl, rb hn', rb h6, h7, h5]
    rfl
end Go.Proofs.Ythfoanmokcepcaa.H
namespace Go.Proofs.Ythfoanmokcepcaa.H
open Go.RowKit Go.MapKept
set_option linter.unusedVariables false
set_option linter.unusedSimpArgs false
variable {P : Program} {m : M} {s : HS} {w : World}
theorem vIdx_ok {t e sz : Nat} {x i v : HV} {cx ci : Value} (he : tElem P t = some e) (hn : tSize P e = some sz) (h : vIdx sz x i = some v) (hx : Rep m x cx) (hi : Rep m i ci) :
    ∃ cv, (Instr.indexAt t cx ci).run P w = .ok cv w ∧ Rep m v cv := by
  have hd := tElem_run he
  have hn' := tSize_run (P := P) (w := w) hn
  unfold vIdx at h
  split at h
  · rename_i k i
    cases hi
    split at h
    · rename_i sz' n cs full
      split at h
      · rename_i hb
        cases h
        cases hx with
        | list0 => omega
        | list _ _ _ _ cap b o f h1 h2 h3 h0 h4 h5 =>
          refine ⟨.pointer (some ⟨b, o + i.toNat * sz, none⟩), ?_, ?_⟩
          · simp [Instr.indexAt, run_underlying hd, asIntOf, hn', hb.1, hb.2, add_loc]
          · refine .elt _ 0 b (o + i.toNat * sz) (fun j => f (i.toNat * sz + j)) (fun x hx => h0 x (List.mem_of_mem_drop (List.mem_of_mem_take hx))) (fun j hj => ?_) (fun j x hj => ?_)
            · rw [Nat.add_assoc]; exact h4 _ (by simp at hj; omega)
            · have hlt : j < sz := by have := (List.getElem?_eq_some_iff.1 hj).1; simp at this; omega
              rw [List.getElem?_take, if_pos hlt, List.getElem?_drop] at hj
              exact h5 _ _ hj
      · cases h
    · rename_i id off sz' n full
      split at h
      · rename_i hb
        cases h
        cases hx with
        | view0 => omega
        | view _ _ _ _ _ cap l h1 h2 h3 h4 =>
          refine ⟨.pointer (some ⟨l.b, l.base + off + i.toNat * sz, none⟩), ?_, ?_⟩
          · simp [Instr.indexAt, run_underlying hd, asIntOf, hn', hb.1, hb.2, add_loc]
          · rw [Nat.add_assoc]; exact .ptr _ _ _ h1
      · cases h
    · cases h
  · cases h
def tArr (P : Program) (t : TypeId) : Option (Nat × TypeId) := match P.underlying t with | some (.array n e) => some (n, e) | _ => none
theorem tArr_run {t n e : Nat} (h : tArr P t = some (n, e)) : P.underlying t = some (.array n e) := by
  unfold tArr at h
  split at h
  · rename_i hd; cases h; exact hd
  · cases h
theorem vIdxArr_ok {t e sz len : Nat} {x i v : HV} {cx ci : Value} (he : tArr P t = some (len, e)) (hn : tSize P e = some sz) (h : vIdxArr len sz x i = some v) (hx : Rep m x cx) (hi : Rep m i ci) :
    ∃ cv, (Instr.indexAt t cx ci).run P w = .ok cv w ∧ Rep m v cv := by
  have hd := tArr_run he
  have hn' := tSize_run (P := P) (w := w) hn
  unfold vIdxArr at h
  split at h
  · rename_i k i
    cases hi
    split at h
    · split at h
      · rename_i id off hb
        cases h
        cases hx with
        | ptr _ _ l hl =>
          refine ⟨.pointer (some ⟨l.b, l.base + off + i.toNat * sz, none⟩), ?_, ?_⟩
          · simp [Instr.indexAt, run_underlying hd, asIntOf, hn', hb.1, hb.2, add_loc, Instr.sureAddr]
          · rw [Nat.add_assoc]; exact .ptr _ _ _ hl
      · cases h
    · split at h
      · rename_i cs off hb
        cases h
        cases hx with
        | elt _ _ b o f h0 h1 h2 =>
          refine ⟨.pointer (some ⟨b, o + off + i.toNat * sz, none⟩), ?_, ?_⟩
          · simp [Instr.indexAt, run_underlying hd, asIntOf, hn', hb.1, hb.2, add_loc, Instr.sureAddr]
          · rw [Nat.add_assoc]; exact .elt _ _ _ _ _ h0 h1 h2
      · cases h
    · cases h
  · cases h
theorem vStrIdx_ok {t : TypeId} {x i v : HV} {cx ci : Value} (hd : P.underlying t = some .string) (h : vStrIdx x i = some v) (hx : Rep m x cx) (hi : Rep m i ci) :
    ∃ cv, (Instr.index t cx ci).run P w = .ok cv w ∧ Rep m v cv := by
  unfold vStrIdx at h
  split at h
  · rename_i k i s
    cases hx; cases hi
    split at h
    · rename_i hb
      cases hs : s[i.toNat]? with
      | none => rw [hs] at h; cases h
      | some b =>
        rw [hs] at h; cases h
        refine ⟨.int .u8 b.toNat, ?_, .lit _⟩
        simp [Instr.index, asIntOf, run_underlying hd, hb, hs]
    · cases h
  · cases h
theorem vAggIdx_ok {t e len n : Nat} {ag : Bool} {x i v : HV} {cx ci : Value} (he : tArr P t = some (len, e)) (hn : tSize P e = some n) (ha : tAgg P e = some ag) (h : vAggIdx len n ag x i = some v)
    (hx : Rep m x cx) (hi : Rep m i ci) : ∃ cv, (Instr.index t cx ci).run P w = .ok cv w ∧ Rep m v cv := by
  have hd := tArr_run he
  have hn' := tSize_run (P := P) (w := w) hn
  unfold vAggIdx at h
  split at h
  · rename_i k i
    cases hi
    split at h
    · rename_i hb
      obtain ⟨vs, rfl, cs, hr, ht⟩ := aggOf h hx
      obtain ⟨cv, h1, h2⟩ := part_ok (w := w) hn ha hr ht
      exact ⟨cv, by simp [Instr.index, asIntOf, run_underlying hd, hb.1, hb.2, hn', h1], h2⟩
    · cases h
  · cases h
theorem field_ok {t f u off n : Nat} {ag : Bool} {x v : HV} {cx : Value} (hf : tField P t f = some (u, off)) (hn : tSize P u = some n) (ha : tAgg P u = some ag) (h : vPart off n ag x = some v) (hx : Rep m x cx) :
    ∃ cv, (Instr.field t cx f).run P w = .ok cv w ∧ Rep m v cv := by
  unfold tField at hf
  split at hf
  · rename_i fs hd
    cases hfl : fs[f]? with
    | none => rw [hfl] at hf; cases hf
    | some fl =>
      rw [hfl] at hf
      simp only [Option.map_some, Option.some.injEq, Prod.mk.injEq] at hf
      obtain ⟨rfl, rfl⟩ := hf
      obtain ⟨vs, rfl, cs, hr, ht⟩ := aggOf h hx
      obtain ⟨cv, h1, h2⟩ := part_ok (w := w) hn ha hr ht
      exact ⟨cv, by simp [Instr.field, run_underlying hd, hfl, asAgg, h1], h2⟩
  · cases hf
theorem vExtract_ok {x v : HV} {i : Nat} {cx : Value} (h : vExtract x i = some v) (hx : Rep m x cx) : ∃ cv, (Instr.extract cx i).run P w = .ok cv w ∧ Rep m v cv := by
  unfold vExtract at h
  split at h
  · cases hx with
    | tup _ vs hs hr =>
      have hlt := (List.getElem?_eq_some_iff.1 h).1
      have h1 := hr _ _ h
      rw [← hs] at hlt
      refine ⟨vs.getD i undef, ?_, h1⟩
      have : vs[i]? = some (vs.getD i undef) := by simp [Array.getD, hlt]
      unfold Instr.extract
      simp only [this]
      rfl
  · rename_i vs
    cases hx
    cases hv : vs[i]? with
    | none => rw [hv] at h; cases h
    | some u =>
      rw [hv] at h; cases h
      exact ⟨u, by unfold Instr.extract; simp only [hv]; rfl, .lit _⟩
  · cases h
theorem lit_or {x : HV} {v : Value} (h : Rep m x v) : ∀ {u : Value}, x = .lit u → v = u := by
  intro u hu; subst hu; cases h; rfl
theorem intAt_ok {x : HV} {v : Value} {i : Int} (h : Rep m x v) (hi : intAt (some x) = some i) : ∃ k, v = .int k i := by
  unfold intAt at hi
  split at hi
  · rename_i k i' heq; cases heq; cases hi; cases h; exact ⟨k, rfl⟩
  · cases hi
/-- Optional operands. -/
def RepO (m : M) : Option HV → Option Value → Prop
  | none, none => True
  | some x, some v => Rep m x v
  | _, _ => False
theorem cutAt_ok {n cap : Nat} {isS : Bool} {lo hi mx : Option HV} {cl ch cm : Option Value} {l h : Nat} {f : Bool} (hc : cutAt n lo hi mx = some (l, h, f)) (hl : RepO m lo cl) (hh : RepO m hi ch) (hm : RepO m mx cm) (hcap : n ≤ cap) :
    (Instr.sliceBounds isS n cap cl ch cm).run P w = .ok (l, h, if f then h else cap) w ∧ l ≤ h ∧ h ≤ n := by
  unfold cutAt at hc
  split at hc
  · rename_i mo h' l' hmo hhi hlo
    split at hc
    · rename_i hb
      obtain ⟨hb1, hb2, hb3, hb4⟩ := hb
      have bound : ∀ (v : Value) (y : Nat) (code : BoundsCode) (i : Int), (∃ k, v = .int k i) → 0 ≤ i → i ≤ (y : Int) → (Instr.sliceBound v y code).run P w = .ok i.toNat w := by
        rintro v y code i ⟨k, rfl⟩ h0 h1
        simp [Instr.sliceBound, asIntOf, h0, h1]
      have hL : (cl = none ∧ l'.toNat = 0) ∨ ∃ v, cl = some v ∧ ∀ code, (Instr.sliceBound v h'.toNat code).run P w = .ok l'.toNat w := by
        cases lo with
        | none => cases cl with
          | none => cases hlo; exact .inl ⟨rfl, rfl⟩
          | some v => exact hl.elim
        | some x => cases cl with
          | none => exact hl.elim
          | some v => exact .inr ⟨v, rfl, fun code => bound v _ code l' (intAt_ok hl hlo) hb1 (by omega)⟩
      cases mx with
      | none =>
        cases cm with
        | some v => exact hm.elim
        | none =>
        cases hmo
        simp only [Option.some.injEq, Prod.mk.injEq] at hc
        obtain ⟨rfl, rfl, rfl⟩ := hc
        refine ⟨?_, by omega, by omega⟩
        cases hi with
        | none =>
          cases ch with
          | some v => exact hh.elim
          | none =>
          cases hhi
          simp only [Int.toNat_natCast] at hL ⊢
          rcases hL with ⟨rfl, e⟩ | ⟨v, rfl, e⟩ <;> simp [Instr.sliceBounds, e]
        | some x =>
          cases ch with
          | none => exact hh.elim
          | some v =>
          have hH := fun code => bound v cap code h' (intAt_ok hh hhi) (by omega) (by omega)
          rcases hL with ⟨rfl, e⟩ | ⟨u, rfl, e⟩ <;> simp [Instr.sliceBounds, e, hH]
      | some x =>
        cases cm with
        | none => exact hm.elim
        | some v =>
        cases hi with
        | none => exact absurd (hb4 rfl) (by simp)
        | some y =>
        cases ch with
        | none => exact hh.elim
        | some u =>
        have hmo' : (intAt (some x)).map some = some mo := hmo
        cases hxi : intAt (some x) with
        | none => rw [hxi] at hmo'; cases hmo'
        | some xi =>
        rw [hxi] at hmo'
        cases hmo'
        simp only at hc
        split at hc
        · rename_i hxe
          subst hxe
          simp only [Option.some.injEq, Prod.mk.injEq] at hc
          obtain ⟨rfl, rfl, rfl⟩ := hc
          have hM := fun code => bound v cap code xi (intAt_ok hm hxi) (by omega) (by omega)
          have hH := fun code => bound u xi.toNat code xi (intAt_ok hh hhi) (by omega) (by omega)
          refine ⟨?_, by omega, by omega⟩
          rcases hL with ⟨rfl, e⟩ | ⟨q, rfl, e⟩ <;> simp [Instr.sliceBounds, e, hH, hM]
        · cases hc
    · cases hc
  · cases hc
theorem reps_sub {cs : List HV} {f : Nat → Value} {k n : Nat} (hr : ∀ j x, cs[j]? = some x → Rep m x (f j)) : ∀ j x, ((cs.drop k).take n)[j]? = some x → Rep m x (f (k + j)) := by
  intro j x hj
  have hlt : j < n := by have := (List.getElem?_eq_some_iff.1 hj).1; simp at this; omega
  rw [List.getElem?_take, if_pos hlt, List.getElem?_drop] at hj
  exact hr _ _ hj
theorem vSlice_ok {t e sz : Nat} {x v : HV} {lo hi mx : Option HV} {cx : Value} {cl ch cm : Option Value} (he : tElem P t = some e) (hn : tSize P e = some sz) (h : vSlice sz x lo hi mx = some v)
    (hx : Rep m x cx) (hl : RepO m lo cl) (hh : RepO m hi ch) (hm : RepO m mx cm) :
    ∃ cv, (Instr.sliceAt t cx cl ch cm).run P w = .ok cv w ∧ Rep m v cv := by
  have hd := tElem_run he
  have hn' := tSize_run (P := P) (w := w) hn
  have go : ∀ (a : Option Addr) (n cap l h : Nat) (f : Bool), (Instr.sliceBounds true n cap cl ch cm).run P w = .ok (l, h, if f then h else cap) w →
      (Instr.sliceAt t (.slice a n cap) cl ch cm).run P w = .ok (.slice (if (if f then h else cap) = l then a else a.map (·.add (l * sz))) (h - l) ((if f then h else cap) - l)) w := by
    intro a n cap l h f hb
    simp [Instr.sliceAt, Instr.slice, run_underlying hd, hb, hn']
  have zero : ∀ (a : Option Addr) (n cap l h : Nat) (f : Bool), l ≤ h → h ≤ n → n ≤ cap → (if f then h else cap) = l → h = l := by
    intro a n cap l h f h1 h2 h3 h4
    cases f <;> simp at h4 <;> omega
  unfold vSlice at h
  split at h
  · rename_i k n cs full
    split at h
    rotate_left
    · cases h
    rename_i hk
    subst hk
    cases hc : cutAt n lo hi mx with
    | none => rw [hc] at h; cases h
    | some r =>
      obtain ⟨l, h', f⟩ := r
      rw [hc] at h; cases h
      cases hx with
      | list0 _ a cap _ hf =>
        obtain ⟨h1, h2, h3⟩ := cutAt_ok (P := P) (w := w) (isS := true) hc hl hh hm (Nat.zero_le cap)
        obtain rfl : h' = 0 := by omega
        obtain rfl : l = 0 := by omega
        refine ⟨_, go a 0 cap 0 0 f h1, ?_⟩
        simp only [Nat.zero_mul, List.drop_zero, Nat.sub_self, List.take_zero]
        refine .list0 k _ _ _ ?_
        intro hff
        cases f
        · simp at hff; simp [hf hff]
        · simp
      | list _ _ _ _ cap b o g hle hf hlen ho hcm hr =>
        obtain ⟨h1, h2, h3⟩ := cutAt_ok (P := P) (w := w) (isS := true) hc hl hh hm hle
        refine ⟨_, go _ n cap l h' f h1, ?_⟩
        by_cases hz : (if f then h' else cap) = l
        · obtain rfl : h' = l := zero none n cap l h' f h2 h3 hle hz
          rw [if_pos hz, hz]
          simp only [Nat.sub_self, Nat.zero_mul, List.take_zero]
          exact .list0 _ _ _ _ (fun _ => rfl)
        · rw [if_neg hz]
          simp only [Option.map_some, add_loc]
          refine .list _ _ _ _ _ b (o + l * k) (fun j => g (l * k + j)) ?_ ?_ ?_ (fun x hx => ho x (List.mem_of_mem_drop (List.mem_of_mem_take hx))) ?_ (reps_sub hr)
          · cases f <;> simp <;> omega
          · intro hff
            cases f
            · simp at hff; have := hf hff.1; simp; omega
            · simp
          · have : h' * k ≤ n * k := Nat.mul_le_mul_right k h3
            simp [hlen, Nat.sub_mul]; omega
          · intro j hj
            rw [Nat.add_assoc]; exact hcm _ (by simp at hj; omega)
  · rename_i id off k n full
    split at h
    rotate_left
    · cases h
    rename_i hk
    subst hk
    cases hc : cutAt n lo hi mx with
    | none => rw [hc] at h; cases h
    | some r =>
      obtain ⟨l, h', f⟩ := r
      rw [hc] at h
      simp only [Option.bind_some] at h
      split at h
      · cases h
      rename_i hcond
      cases h
      cases hx with
      | view0 _ _ _ _ a he =>
        obtain ⟨h1, h2, h3⟩ := cutAt_ok (P := P) (w := w) (isS := true) hc hl hh hm (Nat.le_refl 0)
        obtain rfl : h' = 0 := by omega
        obtain rfl : l = 0 := by omega
        refine ⟨_, go _ 0 0 0 0 f h1, ?_⟩
        have e1 : (if f then 0 else 0 : Nat) = 0 := by cases f <;> rfl
        rw [e1, if_pos rfl]
        refine .view0 _ _ _ _ a fun hff => ?_
        cases f
        · simp at hff
          obtain ⟨lc, g1, g2⟩ := he hff
          exact ⟨lc, g1, by omega⟩
        · simp at hff
      | view _ _ _ _ _ cap lc hlc hle hf hlim hend =>
        obtain ⟨h1, h2, h3⟩ := cutAt_ok (P := P) (w := w) (isS := true) hc hl hh hm hle
        refine ⟨_, go _ n cap l h' f h1, ?_⟩
        by_cases hz : (if f then h' else cap) = l
        · obtain rfl : h' = l := zero none n cap l h' f h2 h3 hle hz
          rw [if_pos hz, hz]
          simp only [Nat.sub_self]
          refine .view0 _ _ _ _ _ fun hff => ⟨lc, hlc, ?_⟩
          cases f
          · simp at hff hz
            subst hz
            obtain rfl : n = cap := by omega
            cases full with
            | true => simp at hff
            | false => have := hend (.inl rfl); omega
          · simp at hff
        · rw [if_neg hz]
          simp only [Option.map_some, add_loc]
          rw [Nat.add_assoc]
          have hcl : (if f then h' else cap) ≤ cap := by cases f <;> simp; omega
          refine .view _ _ _ _ _ _ lc hlc ?_ ?_ ?_ ?_
          · cases f <;> simp <;> omega
          · intro hff
            cases f
            · simp at hff; have := hf hff.1; simp; omega
            · simp
          · have h5 : ((if f then h' else cap) - l) * k + l * k ≤ cap * k := by
              rw [← Nat.add_mul]; exact Nat.mul_le_mul_right k (by cases f <;> simp <;> omega)
            omega
          · intro _
            have hcap : (if f then h' else cap) = cap ∧ (full = false ∨ n ≠ 0) := by
              cases f with
              | false =>
                refine ⟨rfl, ?_⟩
                cases full with
                | false => exact .inl rfl
                | true =>
                  refine .inr fun hn0 => hz ?_
                  have := hf rfl
                  simp; omega
              | true =>
                simp at hcond hz
                obtain ⟨g1, g2⟩ := hcond hz
                have := hf g1
                exact ⟨by simp; omega, .inr (by omega)⟩
            rw [hcap.1]
            have h6 := hend hcap.2
            have h5 : (cap - l) * k + l * k = cap * k := by
              rw [← Nat.add_mul]; congr 1; omega
            omega
  · rename_i v0
    split at h
    rotate_left
    · cases h
    rename_i hnil
    obtain rfl := isNilS_eq hnil
    cases hc : cutAt 0 lo hi mx with
    | none => rw [hc] at h; cases h
    | some r =>
      obtain ⟨l, h', f⟩ := r
      rw [hc] at h; cases h
      cases hx
      obtain ⟨h1, h2, h3⟩ := cutAt_ok (P := P) (w := w) (isS := true) hc hl hh hm (Nat.le_refl 0)
      obtain rfl : h' = 0 := by omega
      obtain rfl : l = 0 := by omega
      refine ⟨_, go none 0 0 0 0 f h1, ?_⟩
      have e1 : (if f then 0 else 0 : Nat) = 0 := by cases f <;> rfl
      rw [e1, if_pos rfl]
      exact .lit _
  · cases hc : cutAt 0 lo hi mx with
    | none => rw [hc] at h; cases h
    | some r =>
      obtain ⟨l, h', f⟩ := r
      rw [hc] at h; cases h
      cases hx with
      | nils cap =>
      obtain ⟨h1, h2, h3⟩ := cutAt_ok (P := P) (w := w) (isS := true) hc hl hh hm (Nat.zero_le cap)
      obtain rfl : h' = 0 := by omega
      obtain rfl : l = 0 := by omega
      refine ⟨_, go none 0 cap 0 0 f h1, ?_⟩
      have e1 : (if (if f then 0 else cap : Nat) = 0 then (none : Option Addr) else Option.map (fun x : Addr => x.add (0 * sz)) none) = none := by
        by_cases hz : (if f then 0 else cap : Nat) = 0
        · rw [if_pos hz]
        · rw [if_neg hz]; rfl
      rw [e1]
      exact .nils _
  · cases h
/-- A cut whose room is told, and is more than what is cut: nobody looks at it. -/
def cutJ (n : Nat) (lo hi : Option HV) (mx : HV) : Bool :=
  match intAt (some mx), hi.bind (fun v => intAt (some v)), (match lo with | none => some 0 | some v => intAt (some v)) with
  | some x, some h, some l => decide (0 ≤ l ∧ l ≤ h ∧ h ≤ x ∧ x ≤ (n : Int))
  | _, _, _ => false
def vSliceX (sz : Nat) (x : HV) (lo hi mx : Option HV) : Option HV :=
  match mx with
  | none => vSlice sz x lo hi none
  | some m => match vSlice sz x lo hi (some m) with
    | some v => some v
    | none => match x with
      | .list _ n _ _ => if cutJ n lo hi m then some .junk else none
      | .view _ _ _ n _ => if cutJ n lo hi m then some .junk else none
      | _ => none
theorem cutJ_ok {n cap : Nat} {isS : Bool} {lo hi : Option HV} {mx : HV} {cl ch : Option Value} {cm : Value} (hc : cutJ n lo hi mx = true) (hl : RepO m lo cl) (hh : RepO m hi ch) (hm : Rep m mx cm) (hcap : n ≤ cap) :
    ∃ r, (Instr.sliceBounds isS n cap cl ch (some cm)).run P w = .ok r w := by
  unfold cutJ at hc
  split at hc
  · rename_i x h l hx hhi hlo
    simp only [decide_eq_true_eq] at hc
    obtain ⟨hb1, hb2, hb3, hb4⟩ := hc
    have bound : ∀ (v : Value) (y : Nat) (code : BoundsCode) (i : Int), (∃ k, v = .int k i) → 0 ≤ i → i ≤ (y : Int) → (Instr.sliceBound v y code).run P w = .ok i.toNat w := by
      rintro v y code i ⟨k, rfl⟩ h0 h1
      simp [Instr.sliceBound, asIntOf, h0, h1]
    cases hi with
    | none => cases hhi
    | some y =>
    cases ch with
    | none => exact hh.elim
    | some u =>
    simp only [Option.bind_some] at hhi
    have hM := fun code => bound cm cap code x (intAt_ok hm hx) (by omega) (by omega)
    have hH := fun code => bound u x.toNat code h (intAt_ok hh hhi) (by omega) (by omega)
    cases lo with
    | none =>
      cases cl with
      | some v => exact hl.elim
      | none => exact ⟨_, by simp [Instr.sliceBounds, hM, hH]; rfl⟩
    | some z =>
      cases cl with
      | none => exact hl.elim
      | some v =>
        have hL := fun code => bound v h.toNat code l (intAt_ok hl hlo) (by omega) (by omega)
        exact ⟨_, by simp [Instr.sliceBounds, hM, hH, hL]; rfl⟩
  · cases hc
theorem vSliceX_ok {t e sz : Nat} {x v : HV} {lo hi mx : Option HV} {cx : Value} {cl ch cm : Option Value} (he : tElem P t = some e) (hn : tSize P e = some sz) (h : vSliceX sz x lo hi mx = some v)
    (hx : Rep m x cx) (hl : RepO m lo cl) (hh : RepO m hi ch) (hm : RepO m mx cm) :
    ∃ cv, (Instr.sliceAt t cx cl ch cm).run P w = .ok cv w ∧ Rep m v cv := by
  unfold vSliceX at h
  split at h
  · exact vSlice_ok he hn h hx hl hh hm
  · rename_i mv
    cases cm with
    | none => exact hm.elim
    | some cmv =>
    split at h
    · rename_i v' hv
      cases h
      exact vSlice_ok he hn hv hx hl hh hm
    · have hd := tElem_run he
      have hn' := tSize_run (P := P) (w := w) hn
      have go : ∀ (a : Option Addr) (n cap : Nat), n ≤ cap → cutJ n lo hi mv = true → ∃ cv, (Instr.sliceAt t (.slice a n cap) cl ch (some cmv)).run P w = .ok cv w := by
        intro a n cap hle hj
        obtain ⟨⟨l, h, k⟩, hr⟩ := cutJ_ok (P := P) (w := w) (isS := true) hj hl hh hm hle
        exact ⟨_, by simp [Instr.sliceAt, Instr.slice, run_underlying hd, hr, hn']; rfl⟩
      split at h
      · split at h
        · rename_i hj
          cases h
          cases hx with
          | list0 _ a cap _ _ => obtain ⟨cv, h1⟩ := go _ _ _ (Nat.zero_le _) hj; exact ⟨cv, h1, .junk _⟩
          | list _ _ _ _ cap b o g hle _ _ _ _ _ => obtain ⟨cv, h1⟩ := go _ _ _ hle hj; exact ⟨cv, h1, .junk _⟩
        · cases h
      · split at h
        · rename_i hj
          cases h
          cases hx with
          | view0 _ _ _ _ a _ => obtain ⟨cv, h1⟩ := go _ _ _ (Nat.le_refl _) hj; exact ⟨cv, h1, .junk _⟩
          | view _ _ _ _ _ cap l _ hle _ _ _ => obtain ⟨cv, h1⟩ := go _ _ _ hle hj; exact ⟨cv, h1, .junk _⟩
        · cases h
      · cases h
/-- Part of a row by two bounds: behind its end as well, as far as its cells are known. -/
def vSliceS (s : HS) (sz : Nat) (x lo hi : HV) : Option HV :=
  match vSlice sz x (some lo) (some hi) none with
  | some v => some v
  | none => match x, intAt (some lo), intAt (some hi) with
    | .view id off k n false, some a, some b => (match s id with
      | some (.cells cs) => if k = sz ∧ 0 < sz ∧ 0 ≤ a ∧ a ≤ b ∧ off + b.toNat * sz ≤ cs.length then some (.view id (off + a.toNat * sz) sz (b.toNat - a.toNat) false) else none
      | _ => none)
    | _, _, _ => none
theorem vSliceS_ok {t e sz : Nat} {x v lo hi : HV} {cx cl ch : Value} (he : tElem P t = some e) (hn : tSize P e = some sz) (h : vSliceS s sz x lo hi = some v) (hR : Rel m s w)
    (hx : Rep m x cx) (hl : Rep m lo cl) (hh : Rep m hi ch) : ∃ cv, (Instr.sliceAt t cx (some cl) (some ch) none).run P w = .ok cv w ∧ Rep m v cv := by
  unfold vSliceS at h
  split at h
  · rename_i v' hv
    cases h
    exact vSlice_ok (lo := some lo) (hi := some hi) (mx := none) (cm := none) he hn hv hx hl hh trivial
  · split at h
    · rename_i id off k n a b ha hb hx0
      split at h
      · rename_i cs hs
        split at h
        · rename_i hc
          obtain ⟨rfl, hz, h0, hab, hle⟩ := hc
          cases h
          have hd := tElem_run he
          have hn' := tSize_run (P := P) (w := w) hn
          have bound : ∀ (v : Value) (y : Nat) (code : BoundsCode) (i : Int), (∃ k, v = .int k i) → 0 ≤ i → i ≤ (y : Int) → (Instr.sliceBound v y code).run P w = .ok i.toNat w := by
            rintro v y code i ⟨k, rfl⟩ h0 h1
            simp [Instr.sliceBound, asIntOf, h0, h1]
          cases hx with
          | view0 _ _ _ _ ad hend =>
            obtain ⟨l, g1, g2⟩ := hend rfl
            obtain ⟨-, c, t', fr, q1, q2, q3, q4, q5⟩ := hR.objs _ _ _ hs g1
            have hb0 : b.toNat * k = 0 := by omega
            have hb1 : b.toNat = 0 := by
              rcases Nat.mul_eq_zero.1 hb0 with h | h
              · exact h
              · omega
            have hb2 : b = 0 := by omega
            have ha2 : a = 0 := by omega
            subst hb2; subst ha2
            have hH := fun code => bound ch 0 code 0 (intAt_ok hh hb) (by omega) (by omega)
            have hL := fun code => bound cl 0 code 0 (intAt_ok hl ha) (by omega) (by omega)
            refine ⟨.slice (some ad) 0 0, ?_, ?_⟩
            · simp only [Int.toNat_zero] at hH hL
              simp [Instr.sliceAt, Instr.slice, run_underlying hd, hn', Instr.sliceBounds, hH, hL]
            · simp only [Int.toNat_zero, Nat.zero_mul, Nat.add_zero, Nat.sub_self]
              exact .view0 _ _ _ _ _ fun _ => ⟨l, g1, g2⟩
          | view _ _ _ _ _ cap l hll hle' hf hlim hend =>
            obtain ⟨-, c, t', fr, q1, q2, q3, q4, q5⟩ := hR.objs _ _ _ hs hll
            have he' := hend (.inl rfl)
            have hbc : b.toNat ≤ cap := by
              apply Classical.byContradiction
              intro hlt
              have : (cap + 1) * k ≤ b.toNat * k := Nat.mul_le_mul_right _ (by omega)
              rw [Nat.add_mul] at this
              omega
            have hH := fun code => bound ch cap code b (intAt_ok hh hb) (by omega) (by omega)
            have hL := fun code => bound cl b.toNat code a (intAt_ok hl ha) (by omega) (by omega)
            refine ⟨.slice (if cap = a.toNat then some ⟨l.b, l.base + off, none⟩ else some ⟨l.b, l.base + off + a.toNat * k, none⟩) (b.toNat - a.toNat) (cap - a.toNat), ?_, ?_⟩
            · simp [Instr.sliceAt, Instr.slice, run_underlying hd, hn', Instr.sliceBounds, hH, hL, add_loc]
            · by_cases hz2 : cap = a.toNat
              · rw [if_pos hz2]
                have e1 : b.toNat - a.toNat = 0 := by omega
                have e2 : cap - a.toNat = 0 := by omega
                rw [e1, e2]
                exact .view0 _ _ _ _ _ fun _ => ⟨l, hll, by rw [hz2] at he'; omega⟩
              · rw [if_neg hz2, Nat.add_assoc]
                have h5 : (cap - a.toNat) * k + a.toNat * k = cap * k := by rw [← Nat.add_mul]; congr 1; omega
                exact .view _ _ _ _ _ _ l hll (by omega) (fun h => by cases h) (by omega) (fun _ => by omega)
        · cases h
      · cases h
    · cases h
theorem vStrSlice_ok {t : TypeId} {x v : HV} {lo hi : Option HV} {cx : Value} {cl ch : Option Value} (hd : P.underlying t = some .string) (h : vStrSlice x lo hi = some v) (hx : Rep m x cx) (hl : RepO m lo cl) (hh : RepO m hi ch) :
    ∃ cv, (Instr.sliceAt t cx cl ch none).run P w = .ok cv w ∧ Rep m v cv := by
  unfold vStrSlice at h
  split at h
  · rename_i b
    cases hc : cutAt b.size lo hi none with
    | none => rw [hc] at h; cases h
    | some r =>
      obtain ⟨l, h', f⟩ := r
      rw [hc] at h; cases h
      cases hx
      obtain ⟨h1, h2, h3⟩ := cutAt_ok (P := P) (w := w) (isS := false) hc hl hh (show RepO m none none from trivial) (Nat.le_refl _)
      refine ⟨_, ?_, .lit _⟩
      simp [Instr.sliceAt, Instr.slice, run_underlying hd, h1]
  · cases h
/-- What a slice holds, in the world. -/
theorem lcells_ok {sz : Nat} {x : HV} {cs : List HV} {cx : Value} (h : lcells s sz x = some cs) (hR : Rel m s w) (hx : Rep m x cx) (hns : ∀ b, x ≠ .lit (.string b)) :
    ∃ a n cap vs, cx = .slice a n cap ∧ Reps m cs vs ∧ vs.length = n * sz ∧ n ≤ cap ∧ (n = 0 ∨ ∃ b o, a = some ⟨b, o, none⟩ ∧ ∀ j u, vs[j]? = some u → w.cell? ⟨b, o + j, none⟩ = some u) := by
  unfold lcells at h
  split at h
  · rename_i k
    split at h
    · cases h
      cases hx with
      | ne _ a cap => exact ⟨some a, 0, cap, [], rfl, ⟨fun x hx => by simp at hx, rfl, fun j x hj => by simp at hj⟩, by simp, Nat.zero_le _, .inl rfl⟩
    · cases h
  · cases h
    cases hx with
    | nils cap => exact ⟨none, 0, cap, [], rfl, ⟨fun x hx => by simp at hx, rfl, fun j x hj => by simp at hj⟩, by simp, Nat.zero_le _, .inl rfl⟩
  · rename_i k n cs' full
    split at h
    · rename_i hk
      subst hk; cases h
      cases hx with
      | list0 _ a cap _ _ => exact ⟨a, 0, cap, [], rfl, ⟨fun x hx => by simp at hx, rfl, fun j x hj => by simp at hj⟩, by simp, Nat.zero_le _, .inl rfl⟩
      | list _ _ _ _ cap b o f h1 h2 h3 h0 h4 h5 =>
        refine ⟨_, n, cap, (List.range cs.length).map f, rfl, ⟨h0, by simp, fun j x hj => ?_⟩, by simp [h3], h1, .inr ⟨b, o, rfl, fun j u hj => ?_⟩⟩
        · have hlt := (List.getElem?_eq_some_iff.1 hj).1
          have h6 := h5 _ _ hj
          have : ((List.range cs.length).map f).getD j undef = f j := by simp [List.getD, List.getElem?_range, hlt]
          rw [this]; exact h6
        · have hlt : j < cs.length := by have := (List.getElem?_eq_some_iff.1 hj).1; simpa using this
          rw [List.getElem?_map, List.getElem?_range hlt] at hj
          cases hj
          exact hR.com _ _ _ (h4 j hlt)
    · cases h
  · rename_i id off k n full
    split at h
    · rename_i cs' hcs
      split at h
      · rename_i hk
        obtain ⟨hk, hle⟩ := hk
        subst hk; cases h
        cases hx with
        | view0 _ _ _ _ a _ => exact ⟨some a, 0, 0, [], rfl, ⟨fun x hx => by simp at hx, by simp, fun j x hj => by simp at hj⟩, by simp, Nat.le_refl _, .inl rfl⟩
        | view _ _ _ _ _ cap l hl hn hf hlim _ =>
          obtain ⟨h0, c, t, fr, h1, h2, h3, h4, h5⟩ := hR.objs _ _ _ hcs hl
          refine ⟨_, n, cap, (List.range (n * k)).map fun j => c.getD (l.base + off + j) undef, rfl, ⟨fun x hx => h0 x (List.mem_of_mem_drop (List.mem_of_mem_take hx)), by simp; omega, fun j x hj => ?_⟩, by simp, hn, .inr ⟨l.b, l.base + off, rfl, fun j u hj => ?_⟩⟩
          · have hlt : j < n * k := by have := (List.getElem?_eq_some_iff.1 hj).1; simp at this; omega
            rw [List.getElem?_take, if_pos hlt, List.getElem?_drop] at hj
            have h6 := h5 _ _ hj
            have : ((List.range (n * k)).map fun j => c.getD (l.base + off + j) undef).getD j undef = c.getD (l.base + (off + j)) undef := by
              simp [List.getD, List.getElem?_range, hlt, Nat.add_assoc]
            rw [this]; exact h6
          · have hlt : j < n * k := by have := (List.getElem?_eq_some_iff.1 hj).1; simpa using this
            rw [List.getElem?_map, List.getElem?_range hlt] at hj
            cases hj
            have hlt2 : l.base + off + j < c.size := by omega
            simp [World.cell?, h1, hlt2]
      · cases h
    · cases h
  · rename_i v0
    unfold litCells at h
    split at h
    · split at h
      · rename_i n c hn
        subst hn
        cases h; cases hx
        exact ⟨none, 0, c, [], rfl, ⟨fun x hx => by simp at hx, rfl, fun j x hj => by simp at hj⟩, by simp, Nat.zero_le _, .inl rfl⟩
      · cases h
    · rename_i b; exact absurd rfl (hns b)
    · cases h
  · cases h
theorem loadCells_list {b o n : Nat} {vs : List Value} (hn : vs.length = n) (h : ∀ j u, vs[j]? = some u → w.cell? ⟨b, o + j, none⟩ = some u) : (loadCells ⟨b, o, none⟩ n).run P w = .ok vs.toArray w := by
  subst hn
  exact run_loadCells_list w ⟨b, o, none⟩ vs (fun j v hj => by rw [add_loc]; exact h j v hj)
theorem bytesOf_vals : ∀ {cs : List HV} {vs : List Value} {bs : List UInt8}, bytesOf cs = some bs → Reps m cs vs → ∃ ns : List Int, vs = ns.map (Value.int .u8) ∧ bs = ns.map fun n => UInt8.ofNat n.toNat
  | [], vs, bs, h, hr => by
    simp [bytesOf] at h
    subst h
    exact ⟨[], by have := hr.2.1; simpa using this, rfl⟩
  | c :: cs, vs, bs, h, hr => by
    unfold bytesOf at h
    rw [List.mapM_cons] at h
    cases hc : byteOfHV c with
    | none => rw [hc] at h; cases h
    | some b =>
      cases hcs : cs.mapM byteOfHV with
      | none => rw [hc, hcs] at h; cases h
      | some r =>
        rw [hc, hcs] at h
        simp at h
        subst h
        cases vs with
        | nil => have := hr.2.1; simp at this
        | cons v vs =>
          have h1 := hr.2.2 0 c rfl
          simp at h1
          obtain ⟨ns, e1, e2⟩ := bytesOf_vals (cs := cs) (vs := vs) hcs ⟨fun x hx => hr.1 x (.tail _ hx), by have := hr.2.1; simpa using this, fun j x hj => by have := hr.2.2 (j + 1) x (by simpa using hj); simpa using this⟩
          unfold byteOfHV at hc
          split at hc
          · rename_i n
            cases hc; cases h1
            exact ⟨n :: ns, by simp [e1], by simp [e2]⟩
          · cases hc
theorem push_bytes : ∀ (ns : List Int) (s : ByteArray), ns.foldl (fun r n => r.push (UInt8.ofNat n.toNat)) s = ⟨(s.data.toList ++ ns.map fun n => UInt8.ofNat n.toNat).toArray⟩
  | [], s => by simp
  | n :: ns, s => by
    rw [List.foldl_cons, push_bytes ns]
    simp [ByteArray.push]
theorem vToStr_ok {x v : HV} {cx : Value} (h : vToStr s x = some v) (hR : Rel m s w) (hx : Rep m x cx) (hns : ∀ b, x ≠ .lit (.string b)) : ∃ cv, (Conv.bytesToString cx).run P w = .ok cv w ∧ Rep m v cv := by
  unfold vToStr at h
  cases hl : lcells s 1 x with
  | none => rw [hl] at h; cases h
  | some cs =>
    rw [hl] at h
    cases hb : bytesOf cs with
    | none => simp [hb] at h
    | some bs =>
      simp [hb] at h
      subst h
      obtain ⟨a, n, cap, vs, rfl, hr, hlen, -, hw⟩ := lcells_ok hl hR hx hns
      obtain ⟨ns, rfl, rfl⟩ := bytesOf_vals hb hr
      cases a with
      | none =>
        have : n = 0 := by rcases hw with h | ⟨b, o, h, -⟩; exact h; cases h
        subst this
        have : ns = [] := by simpa using hlen
        subst this
        exact ⟨_, rfl, .lit _⟩
      | some ad =>
        have hload : (loadCells ad n).run P w = .ok (ns.map (Value.int .u8)).toArray w := by
          rcases hw with rfl | ⟨b, o, h, hc⟩
          · have : ns = [] := by simpa using hlen
            subst this; rfl
          · cases h
            exact loadCells_list (by simpa using hlen) hc
        have h1 := run_bytesToString w ad n cap ns hload
        refine ⟨_, h1, ?_⟩
        rw [push_bytes]
        have : (ByteArray.empty.data.toList ++ ns.map fun n => UInt8.ofNat n.toNat) = ns.map fun n => UInt8.ofNat n.toNat := by simp
        rw [this]
        exact .lit _
theorem vLookup_ok {t kt et : TypeId} {d : TypeDesc} {z : Value} {x k v : HV} {ok : Bool} {cx ck : Value} (ht : P.underlying t = some (.map kt et)) (hd : P.underlying kt = some d) (hz : tZero P et = some z)
    (h : vLookup s (some d) (.lit z) x k ok = some v) (hR : Rel m s w) (hx : Rep m x cx) (hk : Rep m k ck) : ∃ cv, (Instr.lookup t cx ck ok).run P w = .ok cv w ∧ Rep m v cv := by
  have hz' := tZero_run (P := P) (w := w) hz
  unfold vLookup at h
  split at h
  · rename_i k' d' heq
    cases heq
    cases hk
    split at h
    · rename_i hki
      have hik := isKey_of hki
      have hck := fun e => run_checkKey (P := P) (w := w) hd hik e 9999
      have tup2 : ∀ (a : HV) (ca : Value) (b : Bool), Rep m a ca → Rep m (.tup [a, .lit (.bool b)]) (.tuple #[ca, .bool b]) := fun a ca b ha => by
        refine .tup _ _ rfl (fun j y hj => ?_)
        match j, hj with
        | 0, hj => simp at hj; subst hj; exact ha
        | 1, hj => simp at hj; subst hj; exact .lit _
        | j + 2, hj => simp at hj
      split at h
      · cases h; cases hx
        have hf : (Instr.findKey kt ck []).run P w = .ok none w := run_findKey hd rfl
        cases ok
        · refine ⟨z, ?_, .lit _⟩
          simp [Instr.lookup, run_underlying ht, hck, hf, hz']
        · refine ⟨_, ?_, tup2 _ _ _ (.lit z)⟩
          simp [Instr.lookup, run_underlying ht, hck, hf, hz']
      · rename_i id
        split at h
        · rename_i d2 f n hs
          split at h
          · rename_i hsd
            have hdd : d2 = d := by
              unfold sameKey at hsd
              split at hsd <;> simp_all
            subst hdd
            cases h
            cases hx with
            | map _ l hl =>
            obtain ⟨es, cl, h1, h2, h3, h4, h5, h6⟩ := hR.objs _ _ _ hs hl
            have hg := Go.MapKept.run_getObj_map (P := P) h1
            rcases findNow_spec hik es.toList 0 h4 with ⟨g1, g2⟩ | ⟨j, e, g1, g2, g3⟩
            · have hf : (Instr.findKey kt ck es.toList).run P w = .ok none w := run_findKey hd g1
              have hfk : f ck = none := by
                cases hfk : f ck with
                | none => rfl
                | some y => obtain ⟨e, he, he2, -⟩ := h5 _ _ hfk; exact absurd he2 (g2 e he)
              rw [hfk]
              cases ok
              · refine ⟨z, ?_, .lit _⟩
                simp [Instr.lookup, run_underlying ht, hck, hf, hz', hg]
              · refine ⟨_, ?_, tup2 _ _ _ (.lit z)⟩
                simp [Instr.lookup, run_underlying ht, hck, hf, hz', hg]
            · have hf : (Instr.findKey kt ck es.toList).run P w = .ok (some (0 + j, e.val)) w := run_findKey hd g1
              have hem : e ∈ es.toList := List.mem_of_getElem? g2
              obtain ⟨y, hy⟩ := Option.isSome_iff_exists.1 (h6 e hem)
              obtain ⟨e', he', hq2, hr'⟩ := h5 _ _ hy
              have hee : e' = e := by
                obtain ⟨i, hi⟩ := List.getElem?_of_mem he'
                have hnd := h3.2.2
                have hij : i = j := by
                  have h8 : (es.toList.map (·.key))[i]? = (es.toList.map (·.key))[j]? := by simp [hi, g2, hq2]
                  exact (List.getElem?_inj (by have := (List.getElem?_eq_some_iff.1 hi).1; simpa using this) hnd).1 h8
                subst hij
                rw [hi] at g2; exact Option.some.inj g2
              subst hee
              rw [← g3, hy]
              cases ok
              · refine ⟨e'.val, ?_, hr'⟩
                rw [g3]
                simp [Instr.lookup, run_underlying ht, hck, hf, hz', hg]
              · refine ⟨_, ?_, tup2 _ _ _ hr'⟩
                rw [g3]
                simp [Instr.lookup, run_underlying ht, hck, hf, hz', hg]
          · cases h
        · cases h
      · cases h
    · cases h
  · cases h
end Go.Proofs.Ythfoanmokcepcaa.H
namespace Go.Proofs.Ythfoanmokcepcaa.H
open Go.RowKit Go.MapKept
set_option linter.unusedVariables false
set_option linter.unusedSimpArgs false
variable {P : Program} {m : M} {s : HS} {w : World}
def hNew (s : HS) (ob : HObj) (mk : Nat → HV) (K : HV → HS → Prop) : Prop := ∀ id, s id = none → K (mk id) (s.set id ob)
def putCells (cs : List HV) (off : Nat) (vs : List HV) : List HV := cs.take off ++ vs ++ cs.drop (off + vs.length)
def hStore (s : HS) (p v : HV) (n : Nat) (K : HS → Prop) : Prop :=
  match p, hcells v with
  | .ptr id off, some vs => (match s id with
    | some (.cells cs) => vs.length = n ∧ off + n ≤ cs.length ∧ (∀ x ∈ vs, hone x = true) ∧ K (s.set id (.cells (putCells cs off vs)))
    | _ => False)
  | _, _ => False
def llen : HV → Nat
  | .list _ n _ _ => n
  | .view _ _ _ n _ => n
  | .lit (.string b) => b.size
  | _ => 0
def room (n bytes : Nat) : Prop := n * bytes ≤ 140737488355328 ∧ n ≤ 9223372036854775807
def hAppend (s : HS) (sz bytes : Nat) (b x : HV) (K : HV → HS → Prop) : Prop :=
  match lcells s sz x with
  | none => False
  | some xs =>
    match b with
    | .lit v => if isNilS v then (if llen x = 0 then K b s else room (llen x) bytes ∧ hNew s (.cells xs) (fun id => .view id 0 sz (llen x) false) K) else False
    | .list z n cs full => z = sz ∧ full = true ∧ (if llen x = 0 then K b s else room (n + llen x) bytes ∧ hNew s (.cells (cs ++ xs)) (fun id => .view id 0 sz (n + llen x) false) K)
    | .view i off z n full => z = sz ∧ (match s i with
      | some (.cells cs) => off + n * sz ≤ cs.length ∧
        (if full then (if llen x = 0 then K b s else room (n + llen x) bytes ∧ hNew s (.cells ((cs.drop off).take (n * sz) ++ xs)) (fun id => .view id 0 sz (n + llen x) false) K)
        else if off + n * sz = cs.length then room (n + llen x) bytes ∧ ∀ id, s id = none → K (.view id 0 sz (n + llen x) false) ((s.del i).set id (.cells (cs.drop off ++ xs)))
        else 0 < sz ∧ off + (n + llen x) * sz ≤ cs.length ∧ K (.view i off sz (n + llen x) false) (s.set i (.cells (putCells cs (off + n * sz) xs))))
      | _ => False)
    | _ => False
/-- What an effect comes to. -/
def Did (m : M) (K : HV → HS → Prop) (r : Result Value) : Prop :=
  ∃ cv w' v s' m', r = .ok cv w' ∧ M.le m m' ∧ Rel m' s' w' ∧ Rep m' v cv ∧ K v s'
theorem le_set {s' s : HS} (h : HS.le s' s) (id : Nat) (ob : HObj) : HS.le (s'.set id ob) (s.set id ob) := by
  intro k o hk
  simp only [HS.set] at hk ⊢
  split
  · rename_i e; rw [if_pos e] at hk; exact hk
  · rename_i e; rw [if_neg e] at hk; exact h k o hk
theorem new_ok' {s' : HS} {cs : List HV} {c : Array Value} {t : TypeId} {mk : Nat → HV} {K : HV → HS → Prop} (hR : Rel m s w) (hss : HS.le s' s) (ho : Ones cs) (hle : cs.length ≤ c.size)
    (hr : ∀ j x, cs[j]? = some x → Rep m x (c.getD j undef)) (h : ∀ id, s id = none → K (mk id) (s'.set id (.cells cs))) :
    ∃ id m', M.le m m' ∧ m'.loc id = some ⟨w.heap.size, 0, c.size⟩ ∧ Rel m' (s'.set id (.cells cs)) (w.alloc (.cells c t)) ∧ K (mk id) (s'.set id (.cells cs)) := by
  obtain ⟨id, h1, h2, h3, h4⟩ := hR.new (.cells c t) c.size
  have hm : M.le m { m with loc := fun k => if k = id then some ⟨w.heap.size, 0, c.size⟩ else m.loc k } := by
    refine M.le.mk' rfl rfl (fun _ _ _ x => x) (fun k l hl => ?_) rfl (fun k hr => ?_)
    · show (if k = id then _ else m.loc k) = some l
      rw [if_neg (fun e => by rw [e, h2] at hl; cases hl)]; exact hl
    · show (if k = id then _ else m.loc k) = m.loc k
      rw [if_neg (fun e => by rw [e, h3] at hr; cases hr)]
  obtain ⟨g1, g2⟩ := h4 (.cells cs) ⟨ho, c, t, (0, 0), (heap_alloc w _).1, rfl, by show 0 + cs.length ≤ c.size; omega, .inl rfl, fun j x hj => by rw [Nat.zero_add]; exact (hr j x hj).mono hm⟩
  exact ⟨id, _, hm, by simp, g2.weaken (le_set hss id _), h id h1⟩
theorem new_ok {cs : List HV} {c : Array Value} {t : TypeId} {mk : Nat → HV} {K : HV → HS → Prop} (hR : Rel m s w) (ho : Ones cs) (hle : cs.length ≤ c.size)
    (hr : ∀ j x, cs[j]? = some x → Rep m x (c.getD j undef)) (h : hNew s (.cells cs) mk K) :
    ∃ id m', M.le m m' ∧ m'.loc id = some ⟨w.heap.size, 0, c.size⟩ ∧ Rel m' (s.set id (.cells cs)) (w.alloc (.cells c t)) ∧ K (mk id) (s.set id (.cells cs)) :=
  new_ok' hR (fun _ _ h => h) ho hle hr h
theorem reps_getD {cs : List HV} {vs : List Value} (h : Reps m cs vs) (rest : Array Value) : ∀ j x, cs[j]? = some x → Rep m x ((vs.toArray ++ rest).getD j undef) := by
  intro j x hj
  have hlt : j < vs.length := by rw [h.2.1]; exact (List.getElem?_eq_some_iff.1 hj).1
  have h1 := h.2.2 j x hj
  have : (vs.toArray ++ rest).getD j undef = vs.getD j undef := by
    have h2 : j < vs.length + rest.size := by omega
    simp [Array.getD, List.getD, hlt, h2, Array.getElem_append]
  rw [this]; exact h1
def hBox (s : HS) (v : HV) (K : HV → HS → Prop) : Prop := match hcells v with | some cs => hNew s (.cells cs) (fun id => .ptr id 0) K | none => False
theorem hBox_ok {t : TypeId} {v : HV} {cv : Value} {K : HV → HS → Prop} (h : hBox s v K) (hR : Rel m s w) (hv : Rep m v cv) : Did m K ((Instr.box t cv).run P w) := by
  unfold hBox at h
  split at h
  · rename_i cs hc
    have hr := hv.cells hc
    obtain ⟨id, m', h1, h2, h3, h4⟩ := new_ok (c := cv.cells) (t := t) hR hr.1 (by rw [← hr.2.1]; simp) (fun j x hj => by have := reps_getD hr #[] j x hj; simpa using this) h
    exact ⟨_, _, _, _, m', rfl, h1, h3, .ptr id 0 _ h2, h4⟩
  · exact h.elim
theorem hAlloc_ok {t : TypeId} {z : Value} {K : HV → HS → Prop} (hz : tZero P t = some z) (h : hBox s (.lit z) K) (hR : Rel m s w) : Did m K ((Instr.alloc t true (.tuple #[])).run P w) := by
  obtain ⟨cv, w', v, s', m', h1, h2⟩ := hBox_ok (P := P) (t := t) h hR (.lit z)
  refine ⟨cv, w', v, s', m', ?_, h2⟩
  unfold Instr.alloc
  rw [rb (tZero_run hz)]
  exact h1
theorem setCells_at (b : Nat) : ∀ (vs : List Value) (o : Nat) (w : World) (c : Array Value) (t : TypeId) (fr : Nat × Nat), w.heap[b]? = some (.cells c t fr) → o + vs.length ≤ c.size →
    (∃ c', (w.setCells b o vs).heap[b]? = some (.cells c' t fr) ∧ c'.size = c.size ∧ ∀ k, c'.getD k undef = if o ≤ k ∧ k < o + vs.length then vs.getD (k - o) undef else c.getD k undef) ∧
    (∀ b', b' ≠ b → (w.setCells b o vs).heap[b']? = w.heap[b']?) ∧ (w.setCells b o vs).os = w.os ∧ (w.setCells b o vs).tape = w.tape ∧ (w.setCells b o vs).output = w.output ∧ (w.setCells b o vs).heap.size = w.heap.size
  | [], o, w, c, t, fr, hb, hle => ⟨⟨c, hb, rfl, fun k => by rw [if_neg (by simp only [List.length_nil]; omega)]⟩, fun _ _ => rfl, rfl, rfl, rfl, rfl⟩
  | v :: vs, o, w, c, t, fr, hb, hle => by
    have hlt : b < w.heap.size := (Array.getElem?_eq_some_iff.1 hb).1
    have hle' : o < c.size := by simp at hle; omega
    have hb1 : (w.setCell ⟨b, o, none⟩ v).heap[b]? = some (.cells (c.setIfInBounds o v) t fr) := by
      simp only [World.setCell, Array.getElem?_modify, if_true, hb, Option.map_some]
      rfl
    obtain ⟨⟨c', h1, h2, h3⟩, h4, h5, h6, h7, h8⟩ := setCells_at b vs (o + 1) (w.setCell ⟨b, o, none⟩ v) _ t fr hb1 (by simp at hle ⊢; omega)
    refine ⟨⟨c', h1, by rw [h2]; simp, fun k => ?_⟩, fun b' hb' => ?_, h5.trans rfl, h6.trans rfl, h7.trans rfl, by rw [show w.setCells b o (v :: vs) = (w.setCell ⟨b, o, none⟩ v).setCells b (o + 1) vs from rfl, h8]; simp [World.setCell]⟩
    · rw [h3 k]
      by_cases hk : k = o
      · subst hk
        rw [if_neg (by omega), if_pos (by simp)]
        simp [Array.getD, hle', List.getD]
      · by_cases hr : o + 1 ≤ k ∧ k < o + 1 + vs.length
        · rw [if_pos hr, if_pos (by simp; omega)]
          have : k - o = (k - (o + 1)) + 1 := by omega
          rw [this]; simp [List.getD]
        · rw [if_neg hr, if_neg (by simp; omega)]
          simp only [Array.getD_eq_getD_getElem?]
          rw [Array.getElem?_setIfInBounds_ne (fun e => hk e.symm)]
    · exact (h4 b' hb').trans (Below.heap_setCell w ⟨b, o, none⟩ v b' hb')
theorem storeCells_run {b o : Nat} {vs : List Value} {c : Array Value} {t : TypeId} {fr : Nat × Nat} (hb : w.heap[b]? = some (.cells c t fr)) (hle : o + vs.length ≤ c.size) (hfr : fr.2 ≤ fr.1 ∨ c.size ≤ fr.1) (h1 : ∀ v ∈ vs, v.oneCell' = true) :
    (storeCells ⟨b, o, none⟩ vs).run P w = .ok () (w.setCells b o vs) := by
  have := run_storeCells_cells (P := P) b o vs 0 w (fun j hj => by
    have : o + 0 + j < c.size := by omega
    simp [World.cell?, hb]; omega) (fun j hj => by
    have : o + 0 + j < c.size := by omega
    simp only [World.frozen?, hb]
    rcases hfr with h | h <;> simp <;> omega) h1
  simpa using this
/-- Cells of an object are written. -/
theorem write_ok {id off : Nat} {cs vs : List HV} {cvs : List Value} {l : Loc} (hR : Rel m s w) (hs : s id = some (.cells cs)) (hl : m.loc id = some l) (hle : off ≤ cs.length) (hlim : l.base + off + vs.length ≤ l.lim) (hr : Reps m vs cvs) (id' : Nat)
    (hid' : id' = id) : (storeCells ⟨l.b, l.base + off, none⟩ cvs).run P w = .ok () (w.setCells l.b (l.base + off) cvs) ∧
      Rel m (s.set id (.cells (putCells cs off vs))) (w.setCells l.b (l.base + off) cvs) := by
  obtain ⟨h0, c, t, fr, h1, h2, h3, h4, h5⟩ := hR.objs _ _ _ hs hl
  have hlen := hr.2.1
  refine ⟨storeCells_run h1 (by omega) (by rw [h2]; exact h4.imp (fun h => Nat.le_of_eq h.symm) (fun h => h)) hr.one, ?_⟩
  obtain ⟨⟨c', g1, g2, g3⟩, g4, g5, g6, g7, g8⟩ := setCells_at l.b cvs (l.base + off) w c t fr h1 (by omega)
  refine hR.upd hs hl g4 g5 g6 g7 (by rw [g8]; exact Nat.le_refl _) ⟨?_, c', t, fr, g1, by rw [g2]; exact h2, ?_, h4, fun j x hj => ?_⟩
  · intro x hx
    simp only [putCells, List.mem_append] at hx
    rcases hx with (hx | hx) | hx
    · exact h0 x (List.mem_of_mem_take hx)
    · exact hr.1 x hx
    · exact h0 x (List.mem_of_mem_drop hx)
  · simp only [putCells, List.length_append, List.length_take, List.length_drop]; omega
  · rw [g3]
    by_cases h6 : j < off
    · rw [if_neg (by omega)]
      have : (putCells cs off vs)[j]? = cs[j]? := by
        simp only [putCells]
        rw [List.append_assoc, List.getElem?_append_left (by simp; omega), List.getElem?_take, if_pos h6]
      rw [this] at hj
      exact h5 j x hj
    · by_cases h7 : j < off + vs.length
      · rw [if_pos (by omega)]
        have : (putCells cs off vs)[j]? = vs[j - off]? := by
          simp only [putCells]
          rw [List.append_assoc, List.getElem?_append_right (by simp; omega), List.getElem?_append_left (by simp; omega)]
          congr 1; simp; omega
        rw [this] at hj
        have := hr.2.2 _ _ hj
        rw [show l.base + j - (l.base + off) = j - off from by omega]
        exact this
      · rw [if_neg (by omega)]
        have : (putCells cs off vs)[j]? = cs[j]? := by
          simp only [putCells]
          rw [List.append_assoc, List.getElem?_append_right (by simp; omega), List.getElem?_append_right (by simp; omega), List.getElem?_drop]
          congr 1; simp; omega
        rw [this] at hj
        exact h5 j x hj
theorem hStore_ok {t n : Nat} {p v : HV} {cp cv : Value} {K : HS → Prop} (hn : tSize P t = some n) (h : hStore s p v n K) (hR : Rel m s w) (hp : Rep m p cp) (hv : Rep m v cv) :
    ∃ w' s', (Instr.storeAt t cp cv).run P w = .ok () w' ∧ Rel m s' w' ∧ K s' := by
  unfold hStore at h
  split at h
  · rename_i id off vs hc
    split at h
    · rename_i cs hs
      obtain ⟨h1, h2, h3, h4⟩ := h
      cases hp with
      | ptr _ _ l hl =>
      have hr := hv.cells hc
      obtain ⟨g0, c, t', fr, g1, g2, g3, g4, g5⟩ := hR.objs _ _ _ hs hl
      obtain ⟨h5, h6⟩ := write_ok (P := P) hR hs hl (off := off) (by omega) (by omega) hr id rfl
      refine ⟨_, _, ?_, h6, h4⟩
      have hsz := tSize_run (P := P) (w := w) hn
      have hlen : cv.cells.size = n := by have := hr.2.1; simp at this; omega
      show (Instr.sureAddr _ >>= fun a => storeVar t a cv).run P w = _
      rw [rb (show (Instr.sureAddr (.pointer (some ⟨l.b, l.base + off, none⟩))).run P w = .ok ⟨l.b, l.base + off, none⟩ w from rfl)]
      unfold storeVar
      rw [rb hsz]
      simp only [hlen, ne_eq, not_true_eq_false, if_false]
      exact h5
    · exact h.elim
  · exact h.elim
theorem append_grow {t t2 ty e : TypeId} {i : TypeInfo} {z : Value} {d2 : TypeDesc} (ht : P.underlying t = some (.slice e)) (ht2 : P.underlying t2 = some d2) (hd2 : d2 = .string ∨ ∃ e2, d2 = .slice e2) (hi : P.info? e = some i) (hz : i.zero = some z)
    {base : Option Addr} {sLen sCap n : Nat} {x : Value} {olds news : List Value} (hx : ∀ w : World, (Builtin.lenOf x).run P w = .ok n w)
    (ho : (Builtin.firstCells i.size sLen (.slice base sLen sCap)).run P w.drew = .ok olds.toArray w.drew) (hnw : (Builtin.firstCells i.size n x).run P w.drew = .ok news.toArray w.drew)
    (hg : sCap < sLen + n) (h63 : sLen + n ≤ 9223372036854775807) (hfit : (sLen + n) * i.bytes ≤ 140737488355328) :
    (Builtin.append_ #[t, t2] ty #[.slice base sLen sCap, x]).run P w =
      .ok (.slice (some ⟨w.heap.size, 0, none⟩) (sLen + n) (grownCap w (sLen + n) sCap e))
        (w.drew.alloc (.cells (olds.toArray ++ news.toArray ++ Builtin.zeroCells z.cells (grownCap w (sLen + n) sCap e - (sLen + n))) e)) := by
  have hn : ¬ (sLen + n ≤ sCap) := by omega
  have hx' := hx w
  have hf := growslice_fits (old := sCap) (need := sLen + n) (bytes := i.bytes) hg hfit
  have h48' : ¬ (281474976710656 < Builtin.nextslicecap (sLen + n) sCap * i.bytes) := by omega
  have h63' : ¬ (9223372036854775807 < ((sLen : Int) + (n : Int))) := by omega
  rcases hd2 with rfl | ⟨e2, rfl⟩
  all_goals
    simp [Builtin.append_, run_underlying ht, run_underlying ht2, sizeOf, typeInfo, zeroValue, hi, hz, hx', hn, h48', h63', Question.forced, ho, hnw, newRow, grownCap]
    congr 2
    apply Array.ext'
    simp [List.append_assoc]
theorem append_room {t t2 ty e : TypeId} {i : TypeInfo} {d2 : TypeDesc} (ht : P.underlying t = some (.slice e)) (ht2 : P.underlying t2 = some d2) (hd2 : d2 = .string ∨ ∃ e2, d2 = .slice e2) (hi : P.info? e = some i)
    {b o sLen sCap n : Nat} {x : Value} {news : List Value} {w' : World} (hx : ∀ w : World, (Builtin.lenOf x).run P w = .ok n w)
    (hnw : (Builtin.firstCells i.size n x).run P w = .ok news.toArray w) (hg : sLen + n ≤ sCap) (hst : (storeCells ⟨b, o + sLen * i.size, none⟩ news).run P w = .ok () w') :
    (Builtin.append_ #[t, t2] ty #[.slice (some ⟨b, o, none⟩) sLen sCap, x]).run P w = .ok (.slice (some ⟨b, o, none⟩) (sLen + n) sCap) w' := by
  have hx' := hx w
  rcases hd2 with rfl | ⟨e2, rfl⟩
  all_goals
    simp [Builtin.append_, run_underlying ht, run_underlying ht2, sizeOf, typeInfo, hi, hx', hg, hnw, add_loc, hst]
theorem append_none {t t2 ty e : TypeId} {i : TypeInfo} {d2 : TypeDesc} (ht : P.underlying t = some (.slice e)) (ht2 : P.underlying t2 = some d2) (hd2 : d2 = .string ∨ ∃ e2, d2 = .slice e2) (hi : P.info? e = some i)
    {a : Option Addr} {sLen sCap : Nat} {x : Value} (hx : ∀ w : World, (Builtin.lenOf x).run P w = .ok 0 w)
    (hnw : (Builtin.firstCells i.size 0 x).run P w = .ok #[] w) (hg : sLen ≤ sCap) :
    (Builtin.append_ #[t, t2] ty #[.slice a sLen sCap, x]).run P w = .ok (.slice a sLen sCap) w := by
  have hx' := hx w
  rcases hd2 with rfl | ⟨e2, rfl⟩
  all_goals
    cases a <;> simp [Builtin.append_, run_underlying ht, run_underlying ht2, sizeOf, typeInfo, hi, hx', hg, hnw, storeCells]
theorem firstCells_of {sz n cap : Nat} {a : Option Addr} {vs : List Value} (hlen : vs.length = n * sz) (hw : n = 0 ∨ ∃ b o, a = some ⟨b, o, none⟩ ∧ ∀ j u, vs[j]? = some u → w.cell? ⟨b, o + j, none⟩ = some u) :
    (Builtin.firstCells sz n (.slice a n cap)).run P w = .ok vs.toArray w := by
  cases a with
  | none =>
    have hz : n = 0 := by rcases hw with h | ⟨b, o, h, -⟩; exact h; cases h
    subst hz
    have : vs = [] := by simpa using hlen
    subst this
    rfl
  | some ad =>
    show (loadCells ad (n * sz)).run P w = _
    rcases hw with rfl | ⟨b, o, h, hc⟩
    · have : vs = [] := by simpa using hlen
      subst this
      simp [loadCells, loadCellsFrom]
    · cases h
      exact loadCells_list hlen hc
/-- What is appended: its length, its cells, in every later world that has the same cells. -/
theorem src_ok {sz : Nat} {x : HV} {xs : List HV} {cx : Value} (h : lcells s sz x = some xs) (hR : Rel m s w) (hx : Rep m x cx) :
    ∃ vs, Reps m xs vs ∧ (∀ w : World, (Builtin.lenOf cx).run P w = .ok (llen x) w) ∧ vs.length = llen x * sz ∧ (Builtin.firstCells sz (llen x) cx).run P w = .ok vs.toArray w := by
  by_cases hstr : ∃ b, x = .lit (.string b)
  · obtain ⟨b, rfl⟩ := hstr
    cases hx
    simp only [lcells, litCells] at h
    split at h
    rotate_left
    · cases h
    rename_i h1
    subst h1
    simp only [Option.some.injEq] at h
    have e : xs = (b.data.toList.map fun c => (Value.int .u8 c.toNat)).map .lit := by rw [← h, List.map_map]; rfl
    refine ⟨b.data.toList.map fun c => .int .u8 c.toNat, ?_, fun w => rfl, by simp [llen], ?_⟩
    · rw [e]; exact reps_lits m (List.all_eq_true.2 (fun v hv => by obtain ⟨c, -, rfl⟩ := List.mem_map.1 hv; rfl))
    · simp only [Builtin.firstCells, llen]
      have : (b.extract 0 b.size).data = b.data := by simp
      rw [this]
      show Result.ok _ w = _
      congr 1
      apply Array.ext'
      simp
  · have hns : ∀ b, x ≠ .lit (.string b) := fun b hb => hstr ⟨b, hb⟩
    obtain ⟨a, n, cap, vs, rfl, hr, hlen, hcap, hw⟩ := lcells_ok h hR hx hns
    have hn : llen x = n := by
      cases hx <;> first | rfl | (simp [lcells] at h; done) | skip
      · simp only [lcells] at h
        unfold litCells at h
        split at h <;> simp_all [llen]
    refine ⟨vs, hr, fun w => by rw [hn]; rfl, by rw [hn]; exact hlen, ?_⟩
    rw [hn]
    exact firstCells_of hlen hw
/-- An object under another number, from one of its cells on. -/
theorem Rel.rename {i off : Nat} {cs : List HV} {l : Loc} (hR : Rel m s w) (hs : s i = some (.cells cs)) (hl : m.loc i = some l) (hoff : off ≤ cs.length) :
    ∃ id m', s id = none ∧ M.le m m' ∧ m'.loc id = some ⟨l.b, l.base + off, l.lim⟩ ∧ Rel m' ((s.del i).set id (.cells (cs.drop off))) w := by
  obtain ⟨N, hN⟩ := hR.fin
  obtain ⟨n1, n2, n3⟩ := hN N (Nat.le_refl _)
  have hne : i ≠ N := fun e => by rw [e, n1] at hs; cases hs
  have hm : M.le m { m with loc := fun k => if k = N then some ⟨l.b, l.base + off, l.lim⟩ else m.loc k } := by
    refine M.le.mk' rfl rfl (fun _ _ _ x => x) (fun k l hl => ?_) rfl (fun k hr => ?_)
    · show (if k = N then _ else m.loc k) = some l
      rw [if_neg (fun e => by rw [e, n2] at hl; cases hl)]; exact hl
    · show (if k = N then _ else m.loc k) = m.loc k
      rw [if_neg (fun e => by rw [e, n3] at hr; cases hr)]
  refine ⟨N, _, n1, hm, by simp, ?_⟩
  have old : ∀ k ob, ((s.del i).set N (.cells (cs.drop off))) k = some ob → (k = N ∧ ob = .cells (cs.drop off)) ∨ (k ≠ N ∧ k ≠ i ∧ s k = some ob) := by
    intro k ob h
    by_cases hk : k = N
    · subst hk; simp only [HS.set, if_true] at h; cases h; exact .inl ⟨rfl, rfl⟩
    · simp only [HS.set, if_neg hk, HS.del] at h
      by_cases hi : k = i
      · simp [hi] at h
      · rw [if_neg hi] at h; exact .inr ⟨hk, hi, h⟩
  refine ⟨hR.below, hR.com, ?_, ?_, ?_, ?_⟩
  · intro k ob l' hk hl'
    rcases old k ob hk with ⟨rfl, rfl⟩ | ⟨h1, h2, h3⟩
    · simp only [if_true] at hl'; cases hl'
      obtain ⟨h0, c, t, fr, g1, g2, g3, g4, g5⟩ := hR.objs _ _ _ hs hl
      refine ⟨fun x hx => h0 x (List.mem_of_mem_drop hx), c, t, fr, g1, g2, by simp; omega, g4, fun j x hj => ?_⟩
      rw [List.getElem?_drop] at hj
      have := (g5 _ _ hj).mono hm
      rw [show l.base + (off + j) = l.base + off + j from by omega] at this
      exact this
    · simp only [if_neg h1] at hl'
      exact (hR.objs _ _ _ h3 hl').mono hm
  · intro k ob l' hk hl'
    rcases old k ob hk with ⟨rfl, rfl⟩ | ⟨h1, h2, h3⟩
    · simp only [if_true] at hl'; cases hl'
      have := hR.own i _ l hs hl
      exact this
    · simp only [if_neg h1] at hl'
      exact hR.own _ _ _ h3 hl'
  · intro a b oa ob la lb ha hb hla hlb hab
    rcases old a oa ha with ⟨rfl, rfl⟩ | ⟨h1, h2, h3⟩ <;> rcases old b ob hb with ⟨rfl, rfl⟩ | ⟨h4, h5, h6⟩
    · rfl
    · simp only [if_true] at hla; cases hla
      simp only [if_neg h4] at hlb
      exact absurd (hR.inj i b _ ob l lb hs h6 hl hlb hab) (Ne.symm h5)
    · simp only [if_true] at hlb; cases hlb
      simp only [if_neg h1] at hla
      exact absurd (hR.inj a i oa _ la l h3 hs hla hl hab) h2
    · simp only [if_neg h1] at hla
      simp only [if_neg h4] at hlb
      exact hR.inj a b oa ob la lb h3 h6 hla hlb hab
  · refine ⟨N + 1, fun k hk => ?_⟩
    have hkN : k ≠ N := by omega
    obtain ⟨q1, q2, q3⟩ := hN k (by omega)
    refine ⟨?_, by simp only [if_neg hkN]; exact q2, q3⟩
    simp only [HS.set, if_neg hkN, HS.del]
    split
    · rfl
    · exact q1
theorem le_del (s : HS) (i : Nat) : HS.le (s.del i) s := by
  intro k o h
  simp only [HS.del] at h
  split at h
  · cases h
  · exact h
/-- What an append makes in a new block. -/
theorem fresh_view {e : TypeId} {sz n k : Nat} {cs xs : List HV} {olds news : List Value} {z : Value} {cap : Nat} {K : HV → HS → Prop} {s' : HS} (hR : Rel m s w) (hss : HS.le s' s) (hcs : Reps m cs olds) (hxs : Reps m xs news) (hlo : olds.length = n * sz) (hln : news.length = k * sz) (hzs : z.cells.size = sz)
    (hcap : n + k ≤ cap) (h : ∀ id, s id = none → K (.view id 0 sz (n + k) false) (s'.set id (.cells (cs ++ xs)))) :
    ∃ v s' m', M.le m m' ∧ Rel m' s' (w.drew.alloc (.cells (olds.toArray ++ news.toArray ++ Builtin.zeroCells z.cells (cap - (n + k))) e)) ∧ Rep m' v (.slice (some ⟨w.heap.size, 0, none⟩) (n + k) cap) ∧ K v s' := by
  have hboth : Reps m (cs ++ xs) (olds ++ news) := by
    refine ⟨fun x hx => (List.mem_append.1 hx).elim (hcs.1 x) (hxs.1 x), by rw [List.length_append, List.length_append, hcs.2.1, hxs.2.1], fun j x hj => ?_⟩
    by_cases hlt : j < cs.length
    · rw [List.getElem?_append_left hlt] at hj
      have := hcs.2.2 j x hj
      have h2 : (olds ++ news).getD j undef = olds.getD j undef := by simp [List.getD, List.getElem?_append_left (show j < olds.length by rw [hcs.2.1]; exact hlt)]
      rw [h2]; exact this
    · rw [List.getElem?_append_right (by omega)] at hj
      have := hxs.2.2 _ x hj
      have h2 : (olds ++ news).getD j undef = news.getD (j - cs.length) undef := by simp [List.getD, List.getElem?_append_right (show olds.length ≤ j by rw [hcs.2.1]; omega), hcs.2.1]
      rw [h2]; exact this
  have hsize : (olds.toArray ++ news.toArray ++ Builtin.zeroCells z.cells (cap - (n + k))).size = cap * sz := by
    simp only [Array.size_append, List.size_toArray, size_zeroCells, hzs, hlo, hln]
    rw [← Nat.add_mul, ← Nat.add_mul]; congr 1; omega
  have hc : olds.toArray ++ news.toArray ++ Builtin.zeroCells z.cells (cap - (n + k)) = (olds ++ news).toArray ++ Builtin.zeroCells z.cells (cap - (n + k)) := by
    apply Array.ext'; simp
  obtain ⟨id, m', h1, h2, h3, h4⟩ := new_ok' (c := olds.toArray ++ news.toArray ++ Builtin.zeroCells z.cells (cap - (n + k))) (t := e) (mk := fun id => .view id 0 sz (n + k) false) hR.drew hss hboth.1
    (by rw [hsize]; have := hboth.2.1; rw [List.length_append] at this; rw [← this, hlo, hln, ← Nat.add_mul]; exact Nat.mul_le_mul_right _ hcap) (fun j x hj => by rw [hc]; exact reps_getD hboth _ j x hj) h
  rw [hsize] at h2
  exact ⟨_, _, m', h1, h3, .view id 0 sz (n + k) false cap ⟨w.heap.size, 0, cap * sz⟩ h2 hcap (fun h => by cases h) (by simp) (fun _ => by simp), h4⟩
theorem hAppend_ok {t t2 ty e : TypeId} {sz bytes : Nat} {z : Value} {d2 : TypeDesc} {b x : HV} {cb cx : Value} {K : HV → HS → Prop} (he : tElem P t = some e) (hn : tSize P e = some sz) (hb : tBytes P e = some bytes) (hz : tZero P e = some z)
    (hzs : z.cells.size = sz) (ht2 : P.underlying t2 = some d2) (hd2 : d2 = .string ∨ ∃ e2, d2 = .slice e2)
    (h : hAppend s sz bytes b x K) (hR : Rel m s w) (hrb : Rep m b cb) (hrx : Rep m x cx) : Did m K ((Builtin.append_ #[t, t2] ty #[cb, cx]).run P w) := by
  have ht := tElem_run he
  obtain ⟨i, hi, rfl, rfl, hiz⟩ : ∃ i, P.info? e = some i ∧ i.size = sz ∧ i.bytes = bytes ∧ i.zero = some z := by
    cases hi : P.info? e with
    | none => simp [tSize, hi] at hn
    | some i => simp [tSize, hi] at hn; simp [tBytes, hi] at hb; simp [tZero, hi] at hz; exact ⟨i, rfl, hn, hb, hz⟩
  unfold hAppend at h
  split at h
  · exact h.elim
  rename_i xs hxs
  obtain ⟨news, hnr, hlx, hnl, hfc⟩ := src_ok (P := P) hxs hR hrx
  obtain ⟨news', hnr', -, hnl', hfc'⟩ := src_ok (P := P) hxs hR.drew hrx
  have same : ∀ {u : Option Addr} {n cap : Nat}, n ≤ cap → llen x = 0 → Rep m b (.slice u n cap) → K b s → Did m K ((Builtin.append_ #[t, t2] ty #[.slice u n cap, cx]).run P w) := by
    intro u n cap hle h0 hrb' hk
    rw [h0] at hlx hnl hfc
    have hnil : news = [] := by simpa using hnl
    subst hnil
    exact ⟨_, _, b, s, m, append_none ht ht2 hd2 hi hlx hfc hle, M.le.refl m, hR, hrb', hk⟩
  have grow : ∀ {u : Option Addr} {n cap : Nat} {cs : List HV} {s' : HS}, HS.le s' s → cap < n + llen x → (∃ olds, Reps m cs olds ∧ olds.length = n * i.size ∧ (Builtin.firstCells i.size n (.slice u n cap)).run P w.drew = .ok olds.toArray w.drew) → room (n + llen x) i.bytes →
      (∀ id, s id = none → K (.view id 0 i.size (n + llen x) false) (s'.set id (.cells (cs ++ xs)))) → Did m K ((Builtin.append_ #[t, t2] ty #[.slice u n cap, cx]).run P w) := by
    intro u n cap cs s' hle hlt ⟨olds, ho, hol, hof⟩ hroom hk
    have hrun := append_grow (ty := ty) ht ht2 hd2 hi hiz hlx hof hfc' hlt hroom.2 hroom.1
    obtain ⟨v, s2, m', h1, h2, h3, h4⟩ := fresh_view (e := e) hR hle ho hnr' hol hnl' hzs (grownCap_ge w (n + llen x) cap e) hk
    exact ⟨_, _, v, s2, m', hrun, h1, h2, h3, h4⟩
  split at h
  · -- nil
    split at h
    rotate_left
    · exact h.elim
    rename_i v0 hnil
    obtain rfl := isNilS_eq hnil
    cases hrb
    split at h
    · rename_i h0
      exact same (Nat.le_refl 0) h0 (.lit _) h
    · rename_i h0
      have := grow (u := none) (n := 0) (cap := 0) (cs := []) (fun _ _ h => h) (by omega) ⟨[], ⟨fun x hx => by simp at hx, rfl, fun j x hj => by simp at hj⟩, by simp, run_firstCells_none w.drew i.size 0 0 0⟩ (by rw [Nat.zero_add]; exact h.1) (by rw [Nat.zero_add]; exact h.2)
      exact this
  · -- a list
    rename_i z' n cs full
    obtain ⟨hzz, hfull, h⟩ := h
    subst hzz; subst hfull
    have hl : lcells s i.size (.list i.size n cs true) = some cs := by simp [lcells]
    obtain ⟨a, n', cap, vs, rfl, hvr, hvl, hcap, hvw⟩ := lcells_ok hl hR.drew hrb (fun b hb => by cases hb)
    have hnn : n' = n ∧ cap = n := by
      cases hrb with
      | list0 _ _ _ _ hf => exact ⟨rfl, hf rfl⟩
      | list _ _ _ _ _ _ _ _ _ hf => exact ⟨rfl, hf rfl⟩
    obtain ⟨rfl, rfl⟩ := hnn
    split at h
    · rename_i h0
      exact same (Nat.le_refl _) h0 hrb h
    · rename_i h0
      refine grow (fun _ _ h => h) (by omega) ⟨vs, hvr, hvl, ?_⟩ h.1 h.2
      exact firstCells_of hvl hvw
  · -- a view
    rename_i i0 off z' n full
    obtain ⟨hzz, h⟩ := h
    subst hzz
    split at h
    rotate_left
    · exact h.elim
    rename_i cs hs
    obtain ⟨hle, h⟩ := h
    have hl : lcells s i.size (.view i0 off i.size n full) = some ((cs.drop off).take (n * i.size)) := by simp [lcells, hs, hle]
    obtain ⟨a, n', cap, vs, rfl, hvr, hvl, hcap, hvw⟩ := lcells_ok hl hR.drew hrb (fun b hb => by cases hb)
    have hnn : n' = n := by cases hrb <;> rfl
    subst hnn
    have hf := firstCells_of (P := P) (cap := cap) hvl hvw
    cases full with
    | true =>
      simp only [if_true] at h
      have hcn : cap = n' := by
        cases hrb with
        | view0 _ _ _ _ _ _ => rfl
        | view _ _ _ _ _ _ _ _ _ hf _ _ => exact hf rfl
      split at h
      · rename_i h0
        exact same hcap h0 hrb h
      · rename_i h0
        exact grow (fun _ _ h => h) (by omega) ⟨vs, hvr, hvl, hf⟩ h.1 h.2
    | false =>
      simp only [Bool.false_eq_true, if_false] at h
      split at h
      rotate_left
      · rename_i hnt
        obtain ⟨hsz, hfit, hk⟩ := h
        have hlen2 : xs.length = llen x * i.size := by rw [← hnr.2.1]; exact hnl
        cases hrb with
        | view0 _ _ _ _ a he =>
          obtain ⟨l, g1, g2⟩ := he rfl
          obtain ⟨h0, c, t, fr, q1, q2, q3, q4, q5⟩ := hR.objs _ _ _ hs g1
          omega
        | view _ _ _ _ _ _ l hll hn' hf' hlim hend =>
          obtain ⟨h0, c, t', fr, q1, q2, q3, q4, q5⟩ := hR.objs _ _ _ hs hll
          have he := hend (.inl rfl)
          have hcp : n' + llen x ≤ cap := by
            apply Classical.byContradiction
            intro hlt
            have : (cap + 1) * i.size ≤ (n' + llen x) * i.size := Nat.mul_le_mul_right _ (by omega)
            rw [Nat.add_mul] at this
            omega
          rw [Nat.add_mul] at hfit
          obtain ⟨h1, h2⟩ := write_ok (P := P) hR hs hll (off := off + n' * i.size) (by omega) (by omega) hnr i0 rfl
          have hrun := append_room (ty := ty) ht ht2 hd2 hi hlx hfc hcp (b := l.b) (o := l.base + off) (w' := w.setCells l.b (l.base + (off + n' * i.size)) news) (by rw [show l.base + off + n' * i.size = l.base + (off + n' * i.size) from by omega]; exact h1)
          exact ⟨_, _, _, _, m, hrun, M.le.refl m, h2, Rep.view i0 off i.size (n' + llen x) false cap l hll hcp (fun h => by cases h) hlim (fun _ => he), hk⟩
      rename_i htip
      obtain ⟨hroom, hk⟩ := h
      have htake : (cs.drop off).take (n' * i.size) = cs.drop off := List.take_of_length_le (by simp; omega)
      rw [htake] at hvr
      by_cases hcp : n' + llen x ≤ cap
      · cases hrb with
        | view0 _ _ _ _ a he =>
          have h0 : llen x = 0 := by omega
          rw [h0] at hlx hnl hfc hk
          have hnil : news = [] := by simpa using hnl
          subst hnil
          have hxn : xs = [] := by have := hnr.2.1; simpa using this.symm
          subst hxn
          obtain ⟨l, g1, g2⟩ := he rfl
          obtain ⟨id, m', q1, q2, q3, q4⟩ := Rel.rename (i := i0) (off := off) (cs := cs) (l := l) hR hs g1 (by omega)
          rw [List.append_nil] at hk
          exact ⟨_, _, _, _, m', append_none ht ht2 hd2 hi hlx hfc (Nat.le_refl 0), q2, q4, .view0 id 0 i.size false a (fun _ => ⟨_, q3, by show l.base + off + 0 = l.lim; omega⟩), hk id q1⟩
        | view _ _ _ _ _ _ l hll hn' hf' hlim hend =>
          have hlen2 : xs.length = llen x * i.size := by rw [← hnr.2.1]; exact hnl
          have hcl : cs.length = off + n' * i.size := by omega
          have h9 : (n' + llen x) * i.size ≤ cap * i.size := Nat.mul_le_mul_right _ hcp
          rw [Nat.add_mul] at h9
          obtain ⟨h1, h2⟩ := write_ok (P := P) hR hs hll (off := cs.length) (Nat.le_refl _) (by omega) hnr i0 rfl
          have hput : putCells cs cs.length xs = cs ++ xs := by simp [putCells]
          rw [hput] at h2
          have hrun := append_room (ty := ty) ht ht2 hd2 hi hlx hfc hcp (b := l.b) (o := l.base + off) (w' := w.setCells l.b (l.base + cs.length) news) (by rw [hcl] at h1 ⊢; rw [show l.base + off + n' * i.size = l.base + (off + n' * i.size) from by omega]; exact h1)
          obtain ⟨id, m', q1, q2, q3, q4⟩ := Rel.rename (i := i0) (off := off) (cs := cs ++ xs) (l := l) h2 (by simp [HS.set]) hll (by simp; omega)
          have hdd : (cs ++ xs).drop off = cs.drop off ++ xs := List.drop_append_of_le_length (by omega)
          have hds : (s.set i0 (.cells (cs ++ xs))).del i0 = s.del i0 := by
            funext k
            by_cases hk0 : k = i0 <;> simp [HS.del, HS.set, hk0]
          rw [hdd, hds] at q4
          have hidn : s id = none := by
            simp only [HS.set] at q1
            split at q1
            · cases q1
            · exact q1
          refine ⟨_, _, _, _, m', hrun, q2, q4, ?_, hk id hidn⟩
          have he := hend (.inl rfl)
          have := Rep.view id 0 i.size (n' + llen x) false cap _ q3 hcp (fun h => by cases h) (by show l.base + off + 0 + cap * i.size ≤ l.lim; omega) (fun _ => by show l.base + off + 0 + cap * i.size = l.lim; omega)
          exact this
      · exact grow (le_del s i0) (by omega) ⟨vs, hvr, hvl, hf⟩ hroom hk
  · exact h.elim
end Go.Proofs.Ythfoanmokcepcaa.H
namespace Go.Proofs.Ythfoanmokcepcaa.H
open Go.RowKit Go.MapKept
set_option linter.unusedVariables false
set_option linter.unusedSimpArgs false
variable {P : Program} {m : M} {s : HS} {w : World}
theorem Reps.append {a b : List HV} {x y : List Value} (h : Reps m a x) (k : Reps m b y) : Reps m (a ++ b) (x ++ y) := by
  refine ⟨fun z hz => (List.mem_append.1 hz).elim (h.1 z) (k.1 z), by rw [List.length_append, List.length_append, h.2.1, k.2.1], fun j z hj => ?_⟩
  by_cases hlt : j < a.length
  · rw [List.getElem?_append_left hlt] at hj
    have h2 : (x ++ y).getD j undef = x.getD j undef := by simp [List.getD, List.getElem?_append_left (show j < x.length by rw [h.2.1]; exact hlt)]
    rw [h2]; exact h.2.2 j z hj
  · rw [List.getElem?_append_right (by omega)] at hj
    have h2 : (x ++ y).getD j undef = y.getD (j - a.length) undef := by simp [List.getD, List.getElem?_append_right (show x.length ≤ j by rw [h.2.1]; omega), h.2.1]
    rw [h2]; exact k.2.2 _ z hj
theorem Reps.take {a : List HV} {x : List Value} (h : Reps m a x) (n : Nat) : Reps m (a.take n) (x.take n) := by
  refine ⟨fun z hz => h.1 z (List.mem_of_mem_take hz), by simp [h.2.1], fun j z hj => ?_⟩
  have hlt : j < n := by have := (List.getElem?_eq_some_iff.1 hj).1; simp at this; omega
  rw [List.getElem?_take, if_pos hlt] at hj
  have h2 : (x.take n).getD j undef = x.getD j undef := by simp [List.getD, List.getElem?_take, hlt]
  rw [h2]; exact h.2.2 j z hj
theorem Reps.drop {a : List HV} {x : List Value} (h : Reps m a x) (n : Nat) : Reps m (a.drop n) (x.drop n) := by
  refine ⟨fun z hz => h.1 z (List.mem_of_mem_drop hz), by simp [h.2.1], fun j z hj => ?_⟩
  rw [List.getElem?_drop] at hj
  have h2 : (x.drop n).getD j undef = x.getD (n + j) undef := by simp [List.getD, List.getElem?_drop]
  rw [h2]; exact h.2.2 _ z hj
def cputCells (cs : List Value) (off : Nat) (vs : List Value) : List Value := cs.take off ++ vs ++ cs.drop (off + vs.length)
theorem Reps.put {a b : List HV} {x y : List Value} (h : Reps m a x) (k : Reps m b y) (off : Nat) : Reps m (putCells a off b) (cputCells x off y) := by
  unfold putCells cputCells
  rw [k.2.1]
  exact ((h.take off).append k).append (h.drop _)
theorem fold_put (off : Nat) (vs cells : Array Value) (hle : off + vs.size ≤ cells.size) :
    vs.zipIdx.foldl (fun cs (x : Value × Nat) => cs.setIfInBounds (off + x.2) x.1) cells = (cputCells cells.toList off vs.toList).toArray := by
  have h1 : vs.zipIdx.foldl (fun cs (x : Value × Nat) => cs.setIfInBounds (off + x.2) x.1) cells = (vs.toList.zipIdx 0).foldl (fun cs (x : Value × Nat) => cs.setIfInBounds (off + x.2) x.1) cells := by
    rw [← Array.foldl_toList]; simp
  rw [h1]
  obtain ⟨h2, h3⟩   := Great.foldl_set off vs.toList 0 cells
  apply Array.ext_getElem?
  intro k
  rw [h3 k]
  simp only [Nat.add_zero, Array.length_toList, cputCells, List.getElem?_toArray]
  by_cases h4 : k < off
  · rw [if_neg (by omega), List.append_assoc, List.getElem?_append_left (by simp; omega), List.getElem?_take, if_pos h4]
    simp
  · by_cases h5 : k < off + vs.size
    · rw [if_pos ⟨by omega, h5, by omega⟩, List.append_assoc, List.getElem?_append_right (by simp; omega), List.getElem?_append_left (by simp; omega)]
      congr 1; simp; omega
    · rw [if_neg (by omega), List.append_assoc, List.getElem?_append_right (by simp; omega), List.getElem?_append_right (by simp; omega), List.getElem?_drop]
      rw [← Array.getElem?_toList]
      congr 1; simp; omega
def RepParts (m : M) : List (Nat × HV) → List (Nat × Value) → Prop
  | [], [] => True
  | (i, x) :: r, (j, v) :: q => i = j ∧ Rep m x v ∧ RepParts m r q
  | _, _ => False
theorem hfill_ok {place : Nat → Option (Nat × Nat)} : ∀ {parts : List (Nat × HV)} {cparts : List (Nat × Value)} {cs cs' : List HV} {c : Array Value}, hfill place cs parts = some cs' → RepParts m parts cparts → Reps m cs c.toList →
    ∃ c', Instr.fill place c cparts = some c' ∧ Reps m cs' c'.toList
  | [], [], cs, cs', c, h, _, hr => by simp only [hfill, Option.some.injEq] at h; subst h; exact ⟨c, rfl, hr⟩
  | [], _ :: _, _, _, _, _, hp, _ => hp.elim
  | _ :: _, [], _, _, _, _, hp, _ => hp.elim
  | (i, x) :: r, (j, v) :: q, cs, cs', c, h, hp, hr => by
    obtain ⟨rfl, hx, hq⟩ := hp
    unfold hfill at h
    split at h
    · rename_i off size vs hpl hcv
      split at h
      · rename_i hc
        have hv := hx.cells hcv
        have hvl := hv.2.1
        have hcl := hr.2.1
        simp only [Array.length_toList] at hvl hcl
        have hr2 := hr.put hv off
        have hput : putCells cs off vs = cs.take off ++ vs ++ cs.drop (off + vs.length) := rfl
        rw [← hput] at h
        have hsz : (cputCells c.toList off v.cells.toList).length = c.size := by
          simp only [cputCells, List.length_append, List.length_take, List.length_drop, Array.length_toList]; omega
        obtain ⟨c', h1, h2⟩ := hfill_ok (c := (cputCells c.toList off v.cells.toList).toArray) h hq hr2
        refine ⟨c', ?_, h2⟩
        unfold Instr.fill
        rw [hpl]
        simp only
        rw [if_neg (by simp; omega), fold_put off v.cells c (by omega)]
        exact h1
      · cases h
    · cases h
/-- Where the parts of a literal go, and its zero. -/
def tPlace (P : Program) (t : TypeId) : Option (Nat → Option (Nat × Nat)) :=
  match P.underlying t with
  | some (.array _ e) => (P.info? e).map fun ie i => some (i * ie.size, ie.size)
  | some (.struct fields) => (fields.toList.mapM fun f => (P.info? f.type).map fun i => (f.offset, i.size)).map fun places i => places.toArray[i]?
  | _ => none
def vBuild (place : Nat → Option (Nat × Nat)) (z : Value) (parts : List (Nat × HV)) : Option HV :=
  match hcells (.lit (.agg z.cells)) with
  | some zs => (hfill place zs parts).map .agg
  | none => none
theorem vBuild_ok {t : TypeId} {place : Nat → Option (Nat × Nat)} {z : Value} {parts : List (Nat × HV)} {cparts : Array (Nat × Value)} {v : HV} (hp : tPlace P t = some place) (hz : tZero P t = some z)
    (h : vBuild place z parts = some v) (hr : RepParts m parts cparts.toList) : ∃ cv, (Instr.build t cparts).run P w = .ok cv w ∧ Rep m v cv := by
  unfold vBuild at h
  split at h
  · rename_i zs hzs
    cases hf : hfill place zs parts with
    | none => rw [hf] at h; cases h
    | some cs =>
      rw [hf] at h; cases h
      have hzr := (Rep.lit (m := m) (.agg z.cells)).cells hzs
      obtain ⟨c', h1, h2⟩ := hfill_ok (c := z.cells) hf hr hzr
      refine ⟨.agg c', run_build w t cparts c' ?_, .agg _ _ h2.1 (by have := h2.2.1; simpa using this) (fun j x hj => by have := h2.2.2 j x hj; simpa [List.getD, Array.getD_eq_getD_getElem?] using this)⟩
      unfold tPlace at hp
      unfold tZero at hz
      unfold Program.built
      cases hi : P.info? t with
      | none => rw [hi] at hz; cases hz
      | some it =>
        rw [hi] at hz
        have hz' : it.zero = some z := hz
        cases hd : P.underlying t with
        | none => rw [hd] at hp; cases hp
        | some d =>
          rw [hd] at hp
          cases d <;> simp only at hp <;> first | (cases hp; done) | skip
          · rename_i n e
            cases hie : P.info? e with
            | none => rw [hie] at hp; cases hp
            | some ie => rw [hie] at hp; cases hp; simpa [hz', hie] using h1
          · rename_i fs
            cases hpl : fs.toList.mapM (fun f => (P.info? f.type).map fun i => (f.offset, i.size)) with
            | none => rw [hpl] at hp; cases hp
            | some places => rw [hpl] at hp; cases hp; simpa [hz', hpl] using h1
  · cases h
def zcells (z : Value) (n : Nat) : List HV := (List.range n).map fun j => .lit (z.cells.toList.getD (j % z.cells.size) undef)
def hBuildSlice (s : HS) (sz n : Nat) (z : Value) (parts : List (Nat × HV)) (K : HV → HS → Prop) : Prop :=
  hite (n * sz ≤ 16777216 && z.cells.size == sz && z.cells.toList.all Value.oneCell') (
  match hfill (fun i => some (i * sz, sz)) (zcells z (n * sz)) parts with
  | some cs => hNew s (.cells cs) (fun id => .view id 0 sz n true) K
  | none => False) False
theorem zcells_reps (z : Value) (n : Nat) (hz : 0 < n → 0 < z.cells.size) (h1 : z.cells.toList.all Value.oneCell' = true) : Reps m (zcells z n) ((Array.range n).map (z.cells[· % z.cells.size]!)).toList := by
  have e : ((Array.range n).map (z.cells[· % z.cells.size]!)).toList = (List.range n).map fun j => z.cells.toList.getD (j % z.cells.size) undef := by
    simp only [Array.toList_map, Array.toList_range]
    apply List.map_congr_left
    intro j hj
    have hj' := List.mem_range.1 hj
    have hlt : j % z.cells.size < z.cells.size := Nat.mod_lt _ (hz (by omega))
    simp [List.getD, hlt]
  rw [e]
  have e2 : zcells z n = ((List.range n).map fun j => z.cells.toList.getD (j % z.cells.size) undef).map .lit := by simp [zcells]
  rw [e2]
  refine reps_lits m (List.all_eq_true.2 fun v hv => ?_)
  obtain ⟨j, hj, rfl⟩ := List.mem_map.1 hv
  have hj' := List.mem_range.1 hj
  have hlt : j % z.cells.size < z.cells.toList.length := by rw [Array.length_toList]; exact Nat.mod_lt _ (hz (by omega))
  have : z.cells.toList.getD (j % z.cells.size) undef = z.cells.toList[j % z.cells.size] := by simp only [List.getD, List.getElem?_eq_getElem hlt, Option.getD_some]
  rw [this]
  exact List.all_eq_true.1 h1 _ (List.getElem_mem hlt)
theorem hBuildSlice_ok {t e sz n : Nat} {z : Value} {parts : List (Nat × HV)} {cparts : Array (Nat × Value)} {K : HV → HS → Prop} (he : tElem P t = some e) (hn : tSize P e = some sz) (hz : tZero P e = some z)
    (h : hBuildSlice s sz n z parts K) (hR : Rel m s w) (hr : RepParts m parts cparts.toList) : Did m K ((Instr.buildSlice t n cparts).run P w) := by
  unfold hBuildSlice at h
  rw [hite_eq] at h
  split at h
  rotate_left
  · exact h.elim
  rename_i hcc
  rw [Bool.and_eq_true, Bool.and_eq_true, beq_iff_eq, decide_eq_true_iff] at hcc
  obtain ⟨⟨h24, hzs⟩, hone⟩ := hcc
  split at h
  rotate_left
  · exact h.elim
  rename_i cs hcs
  have hd := tElem_run he
  have hn' := tSize_run (P := P) (w := w) hn
  have hz' := tZero_run (P := P) (w := w) hz
  have hzr := zcells_reps (m := m) z (n * sz) (fun h0 => by rw [hzs]; exact Nat.pos_of_mul_pos_left h0) hone
  obtain ⟨c', h1, h2⟩ := hfill_ok (c := (Array.range (n * sz)).map (z.cells[· % z.cells.size]!)) hcs hr hzr
  have hlen : c'.size = n * sz := by
    have : ∀ {cs cs' : List HV} {parts}, hfill (fun i => some (i * sz, sz)) cs parts = some cs' → cs'.length = cs.length := by
      intro cs cs' parts
      induction parts generalizing cs with
      | nil => intro h; simp only [hfill, Option.some.injEq] at h; rw [h]
      | cons p r ih =>
        intro h
        obtain ⟨i, x⟩ := p
        unfold hfill at h
        split at h
        · split at h
          · rename_i hc
            rw [ih h]
            simp; omega
          · cases h
        · cases h
    have h3 := this hcs
    have h4 := h2.2.1
    simp only [Array.length_toList] at h4
    rw [h4, h3]; simp [zcells]
  have hlc : cs.length = n * sz := by have := h2.2.1; simp only [Array.length_toList] at this; omega
  obtain ⟨id, m', g1, g2, g3, g4⟩ := new_ok (c := c') (t := e) hR h2.1 (by omega) (fun j x hj => by have := h2.2.2 j x hj; simpa [List.getD, Array.getD_eq_getD_getElem?] using this) h
  refine ⟨_, _, _, _, m', ?_, g1, g3, .view id 0 sz n true n _ g2 (Nat.le_refl n) (fun _ => rfl) (by simp [hlen]) (fun _ => by simp [hlen]), g4⟩
  have h24' : ¬ (n * sz > 2 ^ 24) := by omega
  unfold Instr.buildSlice
  rw [rb (run_underlying hd w)]
  simp only
  rw [rb hn']
  simp only [h24', if_false]
  by_cases h0 : n * sz = 0
  · have e0 : ∀ (q : Array Value), (Array.range (n * sz)).map (fun x => q[x % q.size]!) = #[] := fun q => by rw [h0]; simp
    rw [e0] at h1
    simp only [e0, h1]
    simp only [h0, if_true]
    rfl
  · simp only [h0, if_false]
    show (zeroValue e >>= fun v => _).run P w = _
    rw [rb hz']
    show Sem.run P (match Instr.fill (fun i => some (i * sz, sz)) (Array.map (fun x => z.cells[x % z.cells.size]!) (Array.range (n * sz))) cparts.toList with | some cells => _ | x => _) w = _
    rw [h1]
    rfl
end Go.Proofs.Ythfoanmokcepcaa.H
namespace Go.Proofs.Ythfoanmokcepcaa.H
open Go.RowKit Go.MapKept
set_option linter.unusedVariables false
set_option linter.unusedSimpArgs false
variable {P : Program} {m : M} {s : HS} {w : World}
theorem aget (a : Array Value) (j : Nat) : a.toList.getD j undef = a.getD j undef := by
  simp only [List.getD, Array.getD_eq_getD_getElem?, Array.getElem?_toList]
def hMake (s : HS) (sz bytes : Nat) (z : Value) (l c : HV) (K : HV → HS → Prop) : Prop :=
  match l, c with
  | .lit (.int .i64 l), .lit (.int .i64 c) => 0 ≤ l ∧ l ≤ c ∧ c ≤ 4611686018427387904 ∧ bytes * c.toNat ≤ 140737488355328 ∧ z.cells.size = sz ∧ z.cells.toList.all Value.oneCell' = true ∧
      hNew s (.cells (zcells z (l.toNat * sz))) (fun id => .view id 0 sz l.toNat (l == c)) K
  | _, _ => False
theorem hMake_ok {t e sz bytes : Nat} {z : Value} {l c : HV} {cl cc : Value} {K : HV → HS → Prop} (he : tElem P t = some e) (hn : tSize P e = some sz) (hb : tBytes P e = some bytes) (hz : tZero P e = some z)
    (h : hMake s sz bytes z l c K) (hR : Rel m s w) (hl : Rep m l cl) (hc : Rep m c cc) : Did m K ((Instr.makeSlice t cl cc).run P w) := by
  obtain ⟨i, hi, rfl, rfl, hiz⟩ : ∃ i, P.info? e = some i ∧ i.size = sz ∧ i.bytes = bytes ∧ i.zero = some z := by
    cases hi : P.info? e with
    | none => simp [tSize, hi] at hn
    | some i => simp [tSize, hi] at hn; simp [tBytes, hi] at hb; simp [tZero, hi] at hz; exact ⟨i, rfl, hn, hb, hz⟩
  unfold hMake at h
  split at h
  rotate_left
  · exact h.elim
  rename_i l c
  cases hl; cases hc
  obtain ⟨h1, h2, h3, h4, hzs, hone, h⟩ := h
  obtain ⟨a, rfl⟩ := Int.eq_ofNat_of_zero_le h1
  obtain ⟨b, rfl⟩ := Int.eq_ofNat_of_zero_le (Int.le_trans h1 h2)
  have hab : a ≤ b := by omega
  have hzr := zcells_reps (m := m) z (b * i.size) (fun h0 => by rw [hzs]; exact Nat.pos_of_mul_pos_left h0) hone
  have hza := zcells_reps (m := m) z (a * i.size) (fun h0 => by rw [hzs]; exact Nat.pos_of_mul_pos_left h0) hone
  have hle : a * i.size ≤ b * i.size := Nat.mul_le_mul_right _ hab
  simp only [Int.toNat_natCast] at h h4
  obtain ⟨id, m', g1, g2, g3, g4⟩ := new_ok (c := (Array.range (b * i.size)).map (z.cells[· % z.cells.size]!)) (t := e) hR hza.1 (by simp [zcells]; exact hle) (fun j x hj => by
    have hlt : j < a * i.size := by have := (List.getElem?_eq_some_iff.1 hj).1; simpa [zcells] using this
    have hj2 : (zcells z (b * i.size))[j]? = some x := by
      simp only [zcells, List.getElem?_map, List.getElem?_range hlt] at hj
      simp only [zcells, List.getElem?_map, List.getElem?_range (show j < b * i.size by omega)]
      exact hj
    have := hzr.2.2 j x hj2
    rw [aget] at this
    exact this) h
  have hfull : ((a : Int) == (b : Int)) = true → b = a := fun hf => by
    have h9 : (a : Int) = b := beq_iff_eq.1 hf
    omega
  have hwl : IntKind.i64.wrap (a : Int) = a := by rw [IntKind.wrap_i64]; omega
  have hwc : IntKind.i64.wrap (b : Int) = b := by rw [IntKind.wrap_i64]; omega
  have hti : (typeInfo e).run P w = .ok i w := by simp [typeInfo, hi]
  have hzv := tZero_run (P := P) (w := w) hz
  refine ⟨.slice (some ⟨w.heap.size, 0, none⟩) a b, _, _, _, m', ?_, g1, g3, .view id 0 i.size a _ b _ g2 hab hfull (by simp) (fun _ => by simp), g4⟩
  unfold Instr.makeSlice
  rw [rb (run_underlying (tElem_run he) w)]
  simp only
  have hA : ∀ q : Int, (asInt (.int .i64 q)).run P w = .ok q w := fun q => by simp [asInt, asIntOf]
  rw [rb (hA _), rb (hA _), rb hti]
  simp only [hwl, hwc]
  have hcb : ¬ ((b : Int) < 0) := by omega
  have hla : ¬ ((a : Int) < 0) := by omega
  have hlb : ¬ ((a : Int) > b) := by omega
  have hbig : ¬ ((i.bytes : Int) * (b : Int) > 2 ^ 48) := by
    have : ((i.bytes * b : Nat) : Int) ≤ ((140737488355328 : Nat) : Int) := Int.ofNat_le.2 h4
    rw [Int.natCast_mul] at this
    omega
  have hcond : ((decide ((b : Int) < 0) || decide ((i.bytes : Int) * b > 2 ^ 48)) || decide ((a : Int) < 0) || decide ((a : Int) > b)) = false := by
    rw [decide_eq_false hcb, decide_eq_false hbig, decide_eq_false hla, decide_eq_false hlb]; rfl
  rw [hcond]
  simp only [Bool.false_eq_true, if_false, Int.toNat_natCast]
  have hroom : (askRoom (b * i.bytes)).run P w = .ok () w := by
    simp only [askRoom]
    by_cases hq : b * i.bytes > roomBytes
    · rw [if_pos hq]; rfl
    · rw [if_neg hq]; rfl
  show (askRoom (b * i.bytes) >>= fun _ => _).run P w = _
  rw [rb hroom, rb (tSize_run hn)]
  by_cases h0 : b * i.size = 0
  · have e0 : ∀ (q : Array Value), (Array.range (b * i.size)).map (fun x => q[x % q.size]!) = #[] := fun q => by rw [h0]; simp
    simp only [e0]
    simp only [h0, if_true]
    rfl
  · simp only [h0, if_false]
    show (zeroValue e >>= fun v => _).run P w = _
    rw [rb hzv]
    rfl
theorem new_map_ok {d : TypeDesc} {K : HV → HS → Prop} (hR : Rel m s w) (h : hNew s (.map d (fun _ => none) 0) (fun id => .map id) K) :
    ∃ id m', M.le m m' ∧ Rel m' (s.set id (.map d (fun _ => none) 0)) (w.alloc (.map #[] 0)) ∧ Rep m' (.map id) (.map (some w.heap.size)) ∧ K (.map id) (s.set id (.map d (fun _ => none) 0)) := by
  obtain ⟨id, h1, h2, h3, h4⟩ := hR.new (.map #[] 0) 0
  obtain ⟨g1, g2⟩ := h4 (.map d (fun _ => none) 0) ⟨#[], 0, (heap_alloc w _).1, rfl, stamped_empty 0, (by intro e he; simp at he), (fun k x hk => by cases hk), (by intro e he; simp at he)⟩
  exact ⟨id, _, g1, g2, .map id ⟨w.heap.size, 0, 0⟩ (by simp), h id h1⟩
theorem hMakeMap_ok {t kt et : TypeId} {d : TypeDesc} {r : Option HV} {cr : Option Value} {K : HV → HS → Prop} (ht : P.underlying t = some (.map kt et)) (hr : RepO m r cr) (hri : r = none ∨ (intAt r).isSome = true)
    (h : hNew s (.map d (fun _ => none) 0) (fun id => .map id) K) (hR : Rel m s w) : Did m K ((Instr.makeMap t cr).run P w) := by
  obtain ⟨id, m', h1, h2, h3, h4⟩ := new_map_ok hR h
  refine ⟨_, _, _, _, m', ?_, h1, h2, h3, h4⟩
  cases r with
  | none =>
    cases cr with
    | none => rfl
    | some v => exact hr.elim
  | some x =>
    cases cr with
    | none => exact hr.elim
    | some v =>
      obtain ⟨i, hi⟩ := Option.isSome_iff_exists.1 (hri.resolve_left (by simp))
      obtain ⟨k, rfl⟩ := intAt_ok hr hi
      simp [Instr.makeMap, run_underlying ht, asInt, asIntOf, newObj, Sem.run]
open Classical in
noncomputable def fput (f : Value → Option HV) (k : Value) (v : Option HV) : Value → Option HV := fun q => if q = k then v else f q
def hMapSet (s : HS) (d : Option TypeDesc) (mp k v : HV) (K : HS → Prop) : Prop :=
  match mp, k, d with
  | .map id, .lit k, some d => (match s id with
    | some (.map d' f n) => sameKey d' d = true ∧ keyIs d k = true ∧ K (s.set id (.map d' (fput f k (some v)) (if (f k).isSome then n else n + 1)))
    | _ => False)
  | _, _, _ => False
def hMapDel (s : HS) (d : Option TypeDesc) (mp k : HV) (K : HS → Prop) : Prop :=
  match mp, k, d with
  | .lit (.map none), .lit k, some d => keyIs d k = true ∧ K s
  | .map id, .lit k, some d => (match s id with
    | some (.map d' f n) => sameKey d' d = true ∧ keyIs d k = true ∧ K (s.set id (.map d' (fput f k none) (if (f k).isSome then n - 1 else n)))
    | _ => False)
  | _, _, _ => False
theorem sameKey_eq {d d' : TypeDesc} (h : sameKey d d' = true) : d = d' := by
  unfold sameKey at h
  split at h <;> simp_all
theorem setObj_rel {id : Nat} {ob ob' : HObj} {l : Loc} {o : Obj} (hR : Rel m s w) (hs : s id = some ob) (hl : m.loc id = some l) (hob : ∀ w', w'.heap[l.b]? = some o → ObjAt m ob' l w') (hlt : l.b < w.heap.size) :
    Rel m (s.set id ob') { w with heap := w.heap.setIfInBounds l.b o } := by
  refine hR.upd hs hl (fun b hb => by simp [Ne.symm hb]) rfl rfl rfl (by simp) (hob _ (by simp [hlt]))
theorem key_at {es : Array MapEntry} {clock : Nat} (hst : Stamped es clock) {i j : Nat} {e e' : MapEntry} (hi : es.toList[i]? = some e) (hj : es.toList[j]? = some e') (hk : e.key = e'.key) : i = j := by
  have h8 : (es.toList.map (·.key))[i]? = (es.toList.map (·.key))[j]? := by simp only [List.getElem?_map, hi, hj, Option.map_some, hk]
  exact (List.getElem?_inj (by have := (List.getElem?_eq_some_iff.1 hi).1; simpa using this) hst.2.2).1 h8
theorem hMapSet_ok {t kt et : TypeId} {mp k v : HV} {cm ck cv : Value} {K : HS → Prop} (ht : P.underlying t = some (.map kt et)) (h : hMapSet s (P.underlying kt) mp k v K) (hR : Rel m s w) (hm : Rep m mp cm) (hk : Rep m k ck) (hv : Rep m v cv) :
    ∃ w' s', (Instr.mapUpdate t cm ck cv).run P w = .ok () w' ∧ Rel m s' w' ∧ K s' := by
  unfold hMapSet at h
  split at h
  rotate_left
  · exact h.elim
  rename_i id k' dd d hd
  cases hk
  split at h
  rotate_left
  · exact h.elim
  rename_i d' f n hs
  obtain ⟨h1, h2, h3⟩ := h
  obtain rfl := sameKey_eq h1
  have hik := isKey_of h2
  cases hm with
  | map _ l hl =>
  obtain ⟨es, cl, g1, g2, g3, g4, g5, g6⟩ := hR.objs _ _ _ hs hl
  have hlt : l.b < w.heap.size := (Array.getElem?_eq_some_iff.1 g1).1
  have hg := Go.MapKept.run_getObj_map (P := P) g1
  have hck := fun e => run_checkKey (P := P) (w := w) hd hik e 9999
  rcases findNow_spec hik es.toList 0 g4 with ⟨q1, q2⟩ | ⟨j, e, q1, q2, q3⟩
  · have hf : (Instr.findKey kt ck es.toList).run P w = .ok none w := run_findKey hd q1
    have hfk : f ck = none := by
      cases hfk : f ck with
      | none => rfl
      | some y => obtain ⟨e, he, he2, -⟩ := g5 _ _ hfk; exact absurd he2 (q2 e he)
    rw [hfk] at h3
    refine ⟨_, _, ?_, setObj_rel (ob' := .map d' (fput f ck (some v)) (n + 1)) (o := .map (es.push { key := ck, val := cv, born := cl }) (cl + 1)) hR hs hl (fun w' hw' => ⟨_, _, hw', by simp [g2], stamped_push g3 q2, ?_, ?_, ?_⟩) hlt, h3⟩
    · simp [Instr.mapUpdate, run_underlying ht, hg, hck, hf, run_setObj_map _ g1]
    · intro e he
      simp at he
      rcases he with he | rfl
      · exact g4 e (by simpa using he)
      · exact hik
    · intro q x hq
      simp only [fput] at hq
      split at hq
      · rename_i hqk; cases hq; subst hqk; exact ⟨_, by simp; exact .inr rfl, rfl, hv⟩
      · obtain ⟨e, he, he2, he3⟩ := g5 _ _ hq; exact ⟨e, by simp; exact .inl (by simpa using he), he2, he3⟩
    · intro e he
      simp only [fput]
      split
      · rfl
      · rename_i hne
        simp at he
        rcases he with he | rfl
        · exact g6 e (by simpa using he)
        · exact absurd rfl hne
  · have hf : (Instr.findKey kt ck es.toList).run P w = .ok (some (j, e.val)) w := run_findKey hd (by rw [q1, Nat.zero_add])
    have hem : e ∈ es.toList := List.mem_of_getElem? q2
    have hfk : (f ck).isSome = true := by rw [← q3]; exact g6 e hem
    rw [if_pos hfk] at h3
    have q2' : es[j]? = some e := by rw [← Array.getElem?_toList]; exact q2
    have hkeep : (Instr.keyThatStays (((es[j]?).map (·.key)).getD ck) ck).run P w = .ok ck w := by
      rw [q2']; simp only [Option.map_some, Option.getD_some, q3]; exact run_keyThatStays hik
    have hmod : ∀ i : Nat, (es.modify j fun x => { x with key := ck, val := cv }).toList[i]? = if i = j then some { e with key := ck, val := cv } else es.toList[i]? := by
      intro i
      rw [Array.getElem?_toList, Array.getElem?_modify]
      by_cases hij : j = i
      · subst hij; simp [q2']
      · rw [if_neg hij, if_neg (fun h => hij h.symm), Array.getElem?_toList]
    refine ⟨_, _, ?_, setObj_rel (ob' := .map d' (fput f ck (some v)) n) (o := .map (es.modify j fun x => { x with key := ck, val := cv }) cl) hR hs hl (fun w' hw' => ⟨_, _, hw', by simp [g2], ?_, ?_, ?_, ?_⟩) hlt, h3⟩
    · simp [Instr.mapUpdate, run_underlying ht, hg, hck, hf, hkeep, run_setObj_map _ g1]
    · exact stamped_modify g3 _ _ (fun _ _ => rfl) (fun x _ hx => by rw [q2'] at hx; cases hx; exact q3.symm)
    · exact isKey_modify g4 _ _ (fun x hx => by rw [q2'] at hx; cases hx; exact q3.symm)
    · intro q x hq
      simp only [fput] at hq
      split at hq
      · rename_i hqk; cases hq; subst hqk
        exact ⟨_, List.mem_of_getElem? (i := j) (by rw [hmod, if_pos rfl]), rfl, hv⟩
      · rename_i hqk
        obtain ⟨e', he', he2, he3⟩ := g5 _ _ hq
        obtain ⟨i, hi⟩ := List.getElem?_of_mem he'
        have hij : i ≠ j := fun hij => by subst hij; rw [q2] at hi; cases hi; exact hqk (he2.symm.trans q3)
        exact ⟨e', List.mem_of_getElem? (i := i) (by rw [hmod, if_neg hij]; exact hi), he2, he3⟩
    · intro e' he'
      simp only [fput]
      split
      · rfl
      · rename_i hne
        obtain ⟨i, hi⟩ := List.getElem?_of_mem he'
        rw [hmod] at hi
        split at hi
        · cases hi; exact absurd rfl hne
        · exact g6 e' (List.mem_of_getElem? hi)
theorem hMapDel_ok {t kt et ty : TypeId} {mp k : HV} {cm ck : Value} {K : HS → Prop} (ht : P.underlying t = some (.map kt et)) (h : hMapDel s (P.underlying kt) mp k K) (hR : Rel m s w) (hm : Rep m mp cm) (hk : Rep m k ck) (t2 : TypeId) :
    ∃ w' s', (Builtin.delete_ #[t, t2] ty #[cm, ck]).run P w = .ok (.tuple #[]) w' ∧ Rel m s' w' ∧ K s' := by
  unfold hMapDel at h
  split at h
  · rename_i k' dd d hd
    cases hk; cases hm
    obtain ⟨h2, h3⟩ := h
    have hik := isKey_of h2
    have hck := fun e => run_checkKey (P := P) (w := w) hd hik e 9999
    exact ⟨w, s, by simp [Builtin.delete_, run_underlying ht, hck], hR, h3⟩
  · rename_i id k' dd d hd
    cases hk
    split at h
    rotate_left
    · exact h.elim
    rename_i d' f n hs
    obtain ⟨h1, h2, h3⟩ := h
    obtain rfl := sameKey_eq h1
    have hik := isKey_of h2
    cases hm with
    | map _ l hl =>
    obtain ⟨es, cl, g1, g2, g3, g4, g5, g6⟩ := hR.objs _ _ _ hs hl
    have hlt : l.b < w.heap.size := (Array.getElem?_eq_some_iff.1 g1).1
    have hg := Go.MapKept.run_getObj_map (P := P) g1
    have hck := fun e => run_checkKey (P := P) (w := w) hd hik e 9999
    rcases findNow_spec hik es.toList 0 g4 with ⟨q1, q2⟩ | ⟨j, e, q1, q2, q3⟩
    · have hf : (Instr.findKey kt ck es.toList).run P w = .ok none w := run_findKey hd q1
      have hfk : f ck = none := by
        cases hfk : f ck with
        | none => rfl
        | some y => obtain ⟨e, he, he2, -⟩ := g5 _ _ hfk; exact absurd he2 (q2 e he)
      rw [hfk] at h3
      refine ⟨_, _, ?_, setObj_rel (ob' := .map d' (fput f ck none) n) (o := .map es cl) hR hs hl (fun w' hw' => ⟨_, _, hw', g2, g3, g4, ?_, ?_⟩) hlt, h3⟩
      · simp [Builtin.delete_, run_underlying ht, hg, hck, hf, run_setObj_map _ g1]
      · intro q x hq
        simp only [fput] at hq
        split at hq
        · cases hq
        · exact g5 _ _ hq
      · intro e he
        simp only [fput]
        rw [if_neg (q2 e he)]
        exact g6 e he
    · have hf : (Instr.findKey kt ck es.toList).run P w = .ok (some (j, e.val)) w := run_findKey hd (by rw [q1, Nat.zero_add])
      have hem : e ∈ es.toList := List.mem_of_getElem? q2
      have hfk : (f ck).isSome = true := by rw [← q3]; exact g6 e hem
      rw [if_pos hfk] at h3
      have hjl : j < es.size := by have := (List.getElem?_eq_some_iff.1 q2).1; simpa using this
      have herase : (es.eraseIdxIfInBounds j).toList = es.toList.eraseIdx j := by
        simp [Array.eraseIdxIfInBounds, hjl]
      have hsub : (es.eraseIdxIfInBounds j).toList.Sublist es.toList := by rw [herase]; exact List.eraseIdx_sublist _ _
      have hnot : ∀ x ∈ (es.eraseIdxIfInBounds j).toList, x.key ≠ ck := by
        intro x hx hxk
        rw [herase] at hx
        obtain ⟨i, hi⟩ := List.getElem?_of_mem hx
        rw [List.getElem?_eraseIdx] at hi
        split at hi
        · rename_i hlt2
          have := key_at g3 hi q2 (hxk.trans q3.symm)
          omega
        · rename_i hlt2
          have := key_at g3 hi q2 (hxk.trans q3.symm)
          omega
      refine ⟨_, _, ?_, setObj_rel (ob' := .map d' (fput f ck none) (n - 1)) (o := .map (es.eraseIdxIfInBounds j) cl) hR hs hl (fun w' hw' => ⟨_, _, hw', ?_, stamped_erase g3 _, fun x hx => g4 x (hsub.subset hx), ?_, ?_⟩) hlt, h3⟩
      · simp [Builtin.delete_, run_underlying ht, hg, hck, hf, run_setObj_map _ g1]
      · have h9 := congrArg List.length herase
        rw [Array.length_toList, List.length_eraseIdx, if_pos (by simpa using hjl), Array.length_toList, g2] at h9
        exact h9
      · intro q x hq
        simp only [fput] at hq
        split at hq
        · cases hq
        · rename_i hqk
          obtain ⟨e', he', he2, he3⟩ := g5 _ _ hq
          refine ⟨e', ?_, he2, he3⟩
          rw [herase]
          have hne : e' ≠ e := fun hh => hqk (by rw [← he2, hh]; exact q3)
          obtain ⟨i, hi⟩ := List.getElem?_of_mem he'
          have hij : i ≠ j := fun hij => by subst hij; rw [q2] at hi; cases hi; exact hne rfl
          by_cases hlt2 : i < j
          · exact List.mem_of_getElem? (i := i) (by rw [List.getElem?_eraseIdx, if_pos hlt2]; exact hi)
          · exact List.mem_of_getElem? (i := i - 1) (by rw [List.getElem?_eraseIdx, if_neg (by omega), show i - 1 + 1 = i from by omega]; exact hi)
      · intro x hx
        simp only [fput]
        rw [if_neg (hnot x hx)]
        exact g6 x (hsub.subset hx)
  · exact h.elim
def hStrBytes (s : HS) (x : HV) (K : HV → HS → Prop) : Prop :=
  match x with
  | .lit (.string b) => hNew s (.cells (b.data.toList.map fun c => .lit (.int .u8 c.toNat))) (fun id => .view id 0 1 b.size false) K
  | _ => False
theorem hStrBytes_ok {e : TypeId} {x : HV} {b : ByteArray} {K : HV → HS → Prop} (h : hStrBytes s x K) (hR : Rel m s w) (hx : Rep m x (.string b)) : Did m K ((Conv.stringToBytes e b).run P w) := by
  unfold hStrBytes at h
  split at h
  rotate_left
  · exact h.elim
  rename_i b'
  cases hx
  generalize hcap : grownCap w b.size 0 e = cap
  have hle : b.size ≤ cap := by rw [← hcap]; exact grownCap_ge w b.size 0 e
  have hlits : Reps m (b.data.toList.map fun c => HV.lit (.int .u8 c.toNat)) (b.data.toList.map fun c => Value.int .u8 c.toNat) := by
    have e1 : (b.data.toList.map fun c => HV.lit (.int .u8 c.toNat)) = (b.data.toList.map fun c => Value.int .u8 c.toNat).map .lit := by rw [List.map_map]; rfl
    rw [e1]
    exact reps_lits m (List.all_eq_true.2 (fun v hv => by obtain ⟨c, -, rfl⟩ := List.mem_map.1 hv; rfl))
  have hc : (b.data.map fun c => Value.int .u8 c.toNat) ++ Array.replicate (cap - b.size) (Value.int .u8 0) = (b.data.toList.map fun c => Value.int .u8 c.toNat).toArray ++ Array.replicate (cap - b.size) (Value.int .u8 0) := by
    congr 1; apply Array.ext'; simp
  obtain ⟨id, m', g1, g2, g3, g4⟩ := new_ok (c := (b.data.map fun c => Value.int .u8 c.toNat) ++ Array.replicate (cap - b.size) (Value.int .u8 0)) (t := e) hR.drew hlits.1 (by simp) (fun j x hj => by rw [hc]; exact reps_getD hlits _ j x hj) h
  have hsz : ((b.data.map fun c => Value.int .u8 c.toNat) ++ Array.replicate (cap - b.size) (Value.int .u8 0)).size = cap := by
    have : b.data.size = b.size := rfl
    simp [this]; omega
  rw [hsz] at g2
  generalize hcc : (b.data.map fun c => Value.int .u8 c.toNat) ++ Array.replicate (cap - b.size) (Value.int .u8 0) = cc at *
  have hnb : w.drew.heap.size = w.heap.size := rfl
  have hblk : (w.drew.alloc (.cells cc e)).heap[w.heap.size]? = some (.cells cc e (0, 0)) := by rw [← hnb]; exact (heap_alloc w.drew _).1
  have hlt : w.heap.size < (w.drew.alloc (.cells cc e)).heap.size := (Array.getElem?_eq_some_iff.1 hblk).1
  have hfz : ∀ k, ((w.drew.alloc (.cells cc e)).freeze ⟨w.heap.size, cap, none⟩ 1).heap[k]? = if k = w.heap.size then some (.cells cc e (cap, cap + 1)) else (w.drew.alloc (.cells cc e)).heap[k]? := by
    intro k
    simp only [World.freeze, Nat.succ_ne_zero, if_false, Array.getElem?_modify]
    by_cases hk : w.heap.size = k
    · subst hk; rw [if_pos rfl, if_pos rfl, hblk]; rfl
    · rw [if_neg hk, if_neg (Ne.symm hk)]
  have hsame : (s.set id (.cells (b.data.toList.map fun c => .lit (.int .u8 c.toNat)))).set id (.cells (b.data.toList.map fun c => .lit (.int .u8 c.toNat))) = s.set id (.cells (b.data.toList.map fun c => .lit (.int .u8 c.toNat))) := by
    funext k; simp only [HS.set]; split <;> rfl
  have hid : (s.set id (.cells (b.data.toList.map fun c => HV.lit (.int .u8 c.toNat)))) id = some (.cells (b.data.toList.map fun c => .lit (.int .u8 c.toNat))) := by simp [HS.set]
  have hR2 := g3.upd (w' := (w.drew.alloc (.cells cc e)).freeze ⟨w.heap.size, cap, none⟩ 1) (ob' := .cells (b.data.toList.map fun c => .lit (.int .u8 c.toNat))) hid g2
    (fun k hk => by rw [hfz]; exact if_neg hk) rfl rfl rfl (by simp [World.freeze]) (by
      obtain ⟨h0, c, t, fr, h1, h2, h3, h4, h5⟩ := g3.objs _ _ _ hid g2
      have h1' := hblk.symm.trans h1
      cases h1'
      exact ⟨h0, cc, e, (cap, cap + 1), by rw [hfz]; exact if_pos rfl, h2, h3, .inr (Nat.le_refl _), h5⟩)
  rw [hsame] at hR2
  refine ⟨.slice (some ⟨w.heap.size, 0, none⟩) b.size cap, _, _, _, m', ?_, g1, hR2, .view id 0 1 b.size false cap _ g2 hle (fun h => by cases h) (by simp) (fun _ => by simp), g4⟩
  unfold Conv.stringToBytes
  have hch : (choose (.appendCap b.size 0 e)).run P w = .ok cap w.drew := by
    simp only [choose, Sem.run, Question.forced]
    rw [← hcap]
    rfl
  rw [rb hch]
  have hnew : (newRow e ((b.data.map fun c => Value.int .u8 c.toNat) ++ Array.replicate (cap - b.size) (Value.int .u8 0))).run P w.drew = .ok ⟨w.heap.size, 0, none⟩ (w.drew.alloc (.cells cc e)) := by
    rw [hcc]; rfl
  show (newRow e _ >>= fun a => _).run P w.drew = _
  rw [rb hnew]
  have hmk : (markStringish ⟨w.heap.size, 0, none⟩).run P (w.drew.alloc (.cells cc e)) = .ok () ((w.drew.alloc (.cells cc e)).freeze ⟨w.heap.size, cap, none⟩ 1) := by
    unfold markStringish
    have hsh : (shape w.heap.size).run P (w.drew.alloc (.cells cc e)) = .ok (some (e, cap)) (w.drew.alloc (.cells cc e)) := by
      simp only [shape, Sem.run, World.shape?, hblk, hsz]
    show (shape w.heap.size >>= fun a => _).run P _ = _
    rw [rb hsh]
    rfl
  rw [rb hmk]
  rfl
/-- The bytes of a constant text: a row that was just made gets the run-time's mark. -/
def hMark (s : HS) (x : HV) (K : HV → HS → Prop) : Prop :=
  match x with
  | .view id off sz n full => 0 < n ∧ (match s id with | some (.cells _) => K (.view id off sz n full) s | _ => False)
  | _ => False
theorem hMark_ok {t e : TypeId} {x : HV} {cx : Value} {K : HV → HS → Prop} (ht : P.underlying t = some (.slice e)) (he : P.underlying e = some (.int .u8)) (h : hMark s x K) (hR : Rel m s w) (hx : Rep m x cx) : Did m K ((convert t t cx).run P w) := by
  unfold hMark at h
  split at h
  rotate_left
  · exact h.elim
  rename_i id off sz n full
  obtain ⟨hn0, h⟩ := h
  split at h
  rotate_left
  · exact h.elim
  rename_i cs hs
  cases hx with
  | view0 _ _ _ _ _ _ => omega
  | view _ _ _ _ _ cap l hl hn hf hlim hend =>
  obtain ⟨h0, c, ty, fr, h1, h2, h3, h4, h5⟩ := hR.objs _ _ _ hs hl
  have hlt : l.b < w.heap.size := (Array.getElem?_eq_some_iff.1 h1).1
  obtain ⟨fr', hfr', hfz⟩ : ∃ fr' : Nat × Nat, (fr'.1 = fr'.2 ∨ l.lim ≤ fr'.1) ∧ ∀ k, (w.freeze ⟨l.b, c.size, none⟩ 1).heap[k]? = if k = l.b then some (.cells c ty fr') else w.heap[k]? := by
    obtain ⟨lo, hi⟩ := fr
    refine ⟨if lo == hi then (c.size, c.size + 1) else (min lo c.size, max hi (c.size + 1)), ?_, fun k => ?_⟩
    · by_cases hlh : lo = hi
      · simp [hlh]; omega
      · have : l.lim ≤ lo := by rcases h4 with h | h; exact absurd h hlh; exact h
        simp [hlh]; omega
    · simp only [World.freeze, Nat.succ_ne_zero, if_false, Array.getElem?_modify]
      by_cases hk : l.b = k
      · subst hk; rw [if_pos rfl, if_pos rfl, h1]; rfl
      · rw [if_neg hk, if_neg (Ne.symm hk)]
  have hR2 := hR.upd (w' := w.freeze ⟨l.b, c.size, none⟩ 1) (ob' := .cells cs) hs hl (fun k hk => by rw [hfz]; exact if_neg hk) rfl rfl rfl (by simp [World.freeze])
    ⟨h0, c, ty, fr', by rw [hfz]; exact if_pos rfl, h2, h3, hfr', h5⟩
  have hsame : s.set id (.cells cs) = s := by
    funext k; simp only [HS.set]; split
    · rename_i e; rw [e, hs]
    · rfl
  rw [hsame] at hR2
  refine ⟨.slice (some ⟨l.b, l.base + off, none⟩) n cap, _, _, _, m, ?_, M.le.refl m, hR2, .view id off sz n full cap l hl hn hf hlim hend, h⟩
  have hsh : w.shape? l.b = some (ty, c.size) := by
    unfold World.shape?; rw [h1]
  simp [convert, run_underlying ht, run_underlying he, markStringish, hsh]
/-- A row's cells are made zero. -/
def hClear (s : HS) (sz : Nat) (z : Value) (x : HV) (K : HS → Prop) : Prop :=
  match x with
  | .view id off k n _ => k = sz ∧ (match s id with | some (.cells cs) => off + n * sz ≤ cs.length ∧ K (s.set id (.cells (putCells cs off (zcells z (n * sz))))) | _ => False)
  | .nils => K s
  | .ne _ => K s
  | .list _ 0 _ _ => K s
  | .lit v => isNilS v = true ∧ K s
  | _ => False
theorem hClear_ok {t ty e sz : TypeId} {z : Value} {x : HV} {cx : Value} {K : HS → Prop} (he : tElem P t = some e) (hz : tZero P e = some z) (hzs : z.cells.size = sz) (hone : z.cells.toList.all Value.oneCell' = true)
    (h : hClear s sz z x K) (hR : Rel m s w) (hx : Rep m x cx) : ∃ w' s', (Builtin.clear_ #[t] ty #[cx]).run P w = .ok (.tuple #[]) w' ∧ Rel m s' w' ∧ K s' := by
  have ht := tElem_run he
  have hzv := tZero_run (P := P) (w := w) hz
  have none_ : ∀ (a : Option Addr) (c : Nat), (Builtin.clear_ #[t] ty #[.slice a 0 c]).run P w = .ok (.tuple #[]) w := fun a c => by
    cases a <;> simp [Builtin.clear_, run_underlying ht]
  unfold hClear at h
  split at h
  · rename_i id off k n full
    obtain ⟨rfl, h⟩ := h
    split at h
    rotate_left
    · exact h.elim
    rename_i cs hs
    obtain ⟨hle, hk⟩ := h
    have same : n = 0 → s.set id (.cells (putCells cs off (zcells z (n * k)))) = s := by
      rintro rfl
      have e : putCells cs off (zcells z (0 * k)) = cs := by simp [putCells, zcells]
      rw [e]
      funext q
      simp only [HS.set]
      split
      · rename_i e; rw [e, hs]
      · rfl
    by_cases hn : n = 0
    · rw [same hn] at hk
      subst hn
      cases hx with
      | view0 _ _ _ _ a _ => exact ⟨w, s, none_ _ _, hR, hk⟩
      | view _ _ _ _ _ cap l hl hn hf hlim he => exact ⟨w, s, none_ _ _, hR, hk⟩
    · cases hx with
      | view0 _ _ _ _ a _ => exact absurd rfl hn
      | view _ _ _ _ _ cap l hl hnc hf hlim hend =>
        obtain ⟨h0, c, ty', fr, h1, h2, h3, h4, h5⟩ := hR.objs _ _ _ hs hl
        have hzr := zcells_reps (m := m) z (n * k) (fun h0 => by rw [hzs]; exact Nat.pos_of_mul_pos_left h0) hone
        have hlz : (zcells z (n * k)).length = n * k := by simp [zcells]
        obtain ⟨g1, g2⟩ := write_ok (P := P) hR hs hl (off := off) (vs := zcells z (n * k)) (by omega) (by omega) hzr id rfl
        have e1 : (Builtin.zeroCells z.cells n).toList = ((Array.range (n * k)).map (z.cells[· % z.cells.size]!)).toList := by rw [← hzs]; rfl
        rw [← e1] at g1 g2
        refine ⟨_, _, ?_, g2, hk⟩
        cases n with
        | zero => exact absurd rfl hn
        | succ n =>
          simp [Builtin.clear_, run_underlying ht, hzv, g1]
  · cases hx with | nils c => exact ⟨w, s, none_ _ _, hR, h⟩
  · cases hx with | ne _ a c => exact ⟨w, s, none_ _ _, hR, h⟩
  · cases hx with
    | list0 _ a c _ _ => exact ⟨w, s, none_ _ _, hR, h⟩
    | list _ _ _ _ c b o f h1 h2 h3 h4 h5 h6 => exact ⟨w, s, none_ _ _, hR, h⟩
  · obtain ⟨h1, h2⟩ := h
    obtain rfl := isNilS_eq h1
    cases hx
    exact ⟨w, s, none_ _ _, hR, h2⟩
  · exact h.elim
/-- What a map holds, entry by entry: key, element, stamp. -/
structure Reads (f : Value → Option HV) (n : Nat) (es : List (Value × HV × Nat)) : Prop where
  len : es.length = n
  keys : (es.map fun e => e.1).Nodup
  born : (es.map fun e => e.2.2).Nodup
  get : ∀ e ∈ es, f e.1 = some e.2.1
  all : ∀ k x, f k = some x → ∃ b, (k, x, b) ∈ es
/-- A range over a map begins: the map's entries are laid out till it is over. -/
def hRangeM (s : HS) (x : HV) (K : HV → HS → Prop) : Prop :=
  match x with
  | .map id => (match s id with
    | some (.map d f n) => ∀ es cl it, Reads f n es → s it = none → it ≠ id → K (.ptr it 0) ((s.set id (.mapx d es cl)).set it (.iter id cl []))
    | _ => False)
  | _ => False
/-- Its step. -/
def hNext (s : HS) (x : HV) (K : HV → HS → Prop) : Prop :=
  match x with
  | .ptr it 0 => (match s it with
    | some (.iter mid since seen) => (match s mid with
      | some (.mapx d es cl) => cl = since ∧ ((∀ e ∈ es, e.2.2 ∈ seen) → K (.tup [.lit (.bool false)]) s) ∧
          ∀ e ∈ es, e.2.2 ∉ seen → K (.tup [.lit (.bool true), .lit e.1, e.2.1]) (s.set it (.iter mid since (seen ++ [e.2.2])))
      | _ => False)
    | _ => False)
  | _ => False
/-- The step's entry. -/
def vEntry (s : HS) (x : HV) : Option HV :=
  match x with
  | .ptr it 0 => (match s it with
    | some (.iter mid since seen) => (match s mid with
      | some (.mapx d es cl) => if cl = since then (seen.getLast?).bind fun b => (es.find? fun e => e.2.2 == b).map fun e => .tup [.lit e.1, e.2.1] else none
      | _ => none)
    | _ => none)
  | _ => none
theorem hRangeM_ok {t kt et : TypeId} {x : HV} {cx : Value} {K : HV → HS → Prop} (ht : P.underlying t = some (.map kt et)) (h : hRangeM s x K) (hR : Rel m s w) (hx : Rep m x cx) : Did m K ((Instr.range t cx).run P w) := by
  unfold hRangeM at h
  split at h
  rotate_left
  · exact h.elim
  rename_i id
  split at h
  rotate_left
  · exact h.elim
  rename_i d f n hs
  cases hx with
  | map _ l hl =>
  obtain ⟨es, cl, g1, g2, g3, g4, g5, g6⟩ := hR.objs _ _ _ hs hl
  obtain ⟨E, hE⟩ : ∃ E, E = es.toList.map (fun e => (e.key, (f e.key).getD .junk, e.born)) := ⟨_, rfl⟩
  have hE1 : ∀ e ∈ es.toList, f e.key = some ((f e.key).getD .junk) := fun e he => by
    obtain ⟨x, hx⟩ := Option.isSome_iff_exists.1 (g6 e he)
    rw [hx]; rfl
  have hrd : Reads f n E := by
    subst hE
    refine ⟨by simp [g2], by rw [List.map_map]; exact g3.2.2, by rw [List.map_map]; exact g3.2.1, ?_, ?_⟩
    · intro e he
      obtain ⟨e0, h0, rfl⟩ := List.mem_map.1 he
      exact hE1 e0 h0
    · intro k x hk
      obtain ⟨e, he, rfl, -⟩ := g5 k x hk
      refine ⟨e.born, List.mem_map.2 ⟨e, he, ?_⟩⟩
      rw [hk]; rfl
  have hR1 : Rel m (s.set id (.mapx d E cl)) w := by
    refine hR.upd hs hl (fun b _ => rfl) rfl rfl rfl (Nat.le_refl _) ⟨es, g1, g3, g4, by subst hE; simp, fun j e hj => ?_⟩
    subst hE
    rw [List.getElem?_map] at hj
    cases he : es.toList[j]? with
    | none => rw [he] at hj; cases hj
    | some e0 =>
      rw [he] at hj; cases hj
      refine ⟨e0, rfl, rfl, rfl, ?_⟩
      obtain ⟨e1, q1, q2, q3⟩ := g5 _ _ (hE1 e0 (List.mem_of_getElem? he))
      obtain ⟨i, hi⟩ := List.getElem?_of_mem q1
      have hij := key_at g3 hi he q2
      subst hij
      rw [hi] at he
      cases he
      exact q3
  obtain ⟨it, h1, h2, h3, h4⟩ := hR1.new (.mapIter (some l.b) cl #[] cl) 0
  have hne : it ≠ id := fun e => by subst e; simp [HS.set] at h1
  have hsn : s it = none := by simpa [HS.set, hne] using h1
  obtain ⟨hm2, hR2⟩ := h4 (.iter id cl []) ⟨rfl, l, by show (if id = it then _ else m.loc id) = some l; rw [if_neg (Ne.symm hne)]; exact hl, (heap_alloc w _).1⟩
  exact ⟨_, _, _, _, _, run_range_map w t kt et l.b es cl ht g1, hm2, hR2, .ptr it 0 ⟨w.heap.size, 0, 0⟩ (by simp), h E cl it hrd hsn hne⟩
theorem hNext_ok {ty : TypeId} {x : HV} {cx : Value} {K : HV → HS → Prop} (h : hNext s x K) (hR : Rel m s w) (hx : Rep m x cx) : Did m K ((Instr.next cx false ty).run P w) := by
  unfold hNext at h
  split at h
  rotate_left
  · exact h.elim
  rename_i it
  split at h
  rotate_left
  · exact h.elim
  rename_i mid since seen hs
  split at h
  rotate_left
  · exact h.elim
  rename_i d es cl hmid
  obtain ⟨rfl, k1, k2⟩ := h
  cases hx with
  | ptr _ _ l hl =>
  obtain ⟨h0, lm, hlm, hit⟩ := hR.objs _ _ _ hs hl
  obtain ⟨a, q1, q2, q3, q4, q5⟩ := hR.objs _ _ _ hmid hlm
  have hpt : (⟨l.b, l.base + 0, none⟩ : Addr) = ⟨l.b, 0, none⟩ := by rw [h0]
  rw [hpt]
  have tol : ∀ (j : Nat) (e : Value × HV × Nat), es[j]? = some e → ∃ e' ∈ a.toList, e'.born = e.2.2 := fun j e hj => by
    obtain ⟨e', h1, -, h3, -⟩ := q5 j e hj
    exact ⟨e', List.mem_of_getElem? h1, h3⟩
  rcases run_next_at (P := P) w ty l.b lm.b cl cl seen.toArray a cl hit q1 q2.1 (Nat.le_refl _) with ⟨n0, hrun⟩ | ⟨e', he', w1, hal, hrun⟩
  · refine ⟨_, _, .tup [.lit (.bool false)], s, m, hrun, M.le.refl m, hR, .tup _ _ rfl (fun j x hj => ?_), k1 fun e he => ?_⟩
    · cases j with
      | zero => simp at hj; subst hj; exact .lit _
      | succ j => simp at hj
    · obtain ⟨j, hj⟩ := List.getElem?_of_mem he
      obtain ⟨e', h1, h2⟩ := tol j e hj
      have := all_seen a seen.toArray n0 e' h1
      rw [h2] at this
      simpa using this
  · obtain ⟨hem, hes⟩ := mem_left he'
    obtain ⟨j, hj⟩ := List.getElem?_of_mem hem
    have hjl : j < es.length := by
      have := (List.getElem?_eq_some_iff.1 hj).1
      rw [Array.length_toList, q4] at this
      exact this
    obtain ⟨e2, g1, g2, g3, g4⟩ := q5 j es[j] (List.getElem?_eq_getElem hjl)
    rw [hj] at g1
    cases g1
    have hR1 : Rel m s w1 := by rcases hal with rfl | rfl; exact hR; exact hR.drew
    have hlt : l.b < w1.heap.size := by
      have := (Array.getElem?_eq_some_iff.1 hit).1
      rcases hal with rfl | rfl <;> exact this
    have hR2 : Rel m (s.set it (.iter mid cl (seen ++ [es[j].2.2]))) (ChangeMaps.setBlock w1 l.b (.mapIter (some lm.b) cl (seen.toArray.push e'.born) cl)) := by
      refine hR1.upd hs hl (fun b hb => by simp [ChangeMaps.setBlock, Ne.symm hb]) rfl rfl rfl (by simp [ChangeMaps.setBlock]) ⟨h0, lm, hlm, ?_⟩
      simp [ChangeMaps.setBlock, hlt, g3]
    refine ⟨_, _, .tup [.lit (.bool true), .lit es[j].1, es[j].2.1], _, m, hrun, M.le.refl m, hR2, .tup _ _ rfl (fun i x hi => ?_), k2 es[j] (List.getElem_mem hjl) ?_⟩
    · rcases i with _ | _ | _ | i
      · simp at hi; subst hi; exact .lit _
      · simp at hi; subst hi; rw [← g2]; exact .lit _
      · simp at hi; subst hi; exact g4
      · simp at hi
    · rw [← g3]
      simpa using hes
theorem vEntry_ok {x v : HV} {cx : Value} (h : vEntry s x = some v) (hR : Rel m s w) (hx : Rep m x cx) : ∃ cv, (Instr.entry cx).run P w = .ok cv w ∧ Rep m v cv := by
  unfold vEntry at h
  split at h
  rotate_left
  · cases h
  rename_i it
  split at h
  rotate_left
  · cases h
  rename_i mid since seen hs
  split at h
  rotate_left
  · cases h
  rename_i d es cl hmid
  split at h
  rotate_left
  · cases h
  rename_i hcl
  subst hcl
  cases hb : seen.getLast? with
  | none => rw [hb] at h; cases h
  | some b =>
  rw [hb] at h
  simp only [Option.bind_some] at h
  cases he : es.find? (fun e => e.2.2 == b) with
  | none => rw [he] at h; cases h
  | some e =>
  rw [he] at h
  simp only [Option.map_some, Option.some.injEq] at h
  subst h
  have heb : e.2.2 = b := by have := List.find?_some he; simpa using this
  cases hx with
  | ptr _ _ l hl =>
  obtain ⟨h0, lm, hlm, hit⟩ := hR.objs _ _ _ hs hl
  obtain ⟨a, q1, q2, q3, q4, q5⟩ := hR.objs _ _ _ hmid hlm
  have hpt : (⟨l.b, l.base + 0, none⟩ : Addr) = ⟨l.b, 0, none⟩ := by rw [h0]
  rw [hpt]
  obtain ⟨j, hj⟩ := List.getElem?_of_mem (List.mem_of_find?_eq_some he)
  obtain ⟨e', g1, g2, g3, g4⟩ := q5 j e hj
  obtain ⟨sn, rfl⟩ : ∃ sn, seen = sn ++ [b] := by
    obtain ⟨ys, hy⟩ := List.getLast?_eq_some_iff.1 hb
    exact ⟨ys, hy⟩
  refine ⟨_, run_entry_at w l.b lm.b cl sn.toArray a cl e' (by rw [hit]; simp [g3, heb]) q1 (List.mem_of_getElem? g1) q2.2.1, .tup _ _ rfl (fun i x hi => ?_)⟩
  rcases i with _ | _ | i
  · simp at hi; subst hi; rw [← g2]; exact .lit _
  · simp at hi; subst hi; exact g4
  · simp at hi
end Go.Proofs.Ythfoanmokcepcaa.H
end
