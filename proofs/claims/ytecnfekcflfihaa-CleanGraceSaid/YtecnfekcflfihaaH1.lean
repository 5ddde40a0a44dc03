/- The H layer, 1: values with slices as lists, states as finite maps of objects, and what of the model's world they stand for. -/
import Derived.WalkKit
import Derived.Laws.AppendOwn
import Derived.MapKept
namespace Go.Proofs.Ytecnfekcflfihaa.H
open Go.RowKit Go.MapKept
set_option linter.unusedVariables false
set_option autoImplicit false

inductive HV where
  | lit (v : Value)
  | junk
  | ptr (id off : Nat)
  | elt (cs : List HV) (off : Nat)
  | list (sz n : Nat) (cs : List HV) (full : Bool)
  | ne (sz : Nat)
  | nils
  | view (id off sz n : Nat) (full : Bool)
  | map (id : Nat)
  | agg (cs : List HV)
  | tup (vs : List HV)
  | func (fn : Fn) (caps : List HV)
instance : Inhabited HV := ⟨.junk⟩

inductive HObj where
  | cells (cs : List HV)
  | map (d : TypeDesc) (f : Value → Option HV) (n : Nat)

abbrev HS := Nat → Option HObj
def HS.set (s : HS) (id : Nat) (o : HObj) : HS := fun k => if k = id then some o else s k
def HS.del (s : HS) (id : Nat) : HS := fun k => if k = id then none else s k
/-- What s' knows, s knows. -/
def HS.le (s' s : HS) : Prop := ∀ k o, s' k = some o → s k = some o

/-- Where an object stands: its block, the number of its first cell, and the block's size. -/
structure Loc where
  b : Nat
  base : Nat
  lim : Nat

structure M where
  w0 : World
  com : Nat → Nat → Option Value
  loc : Nat → Option Loc
  res : Nat → Bool

structure M.le (m m' : M) : Prop where
  w0 : m'.w0 = m.w0
  com : ∀ b o v, m.com b o = some v → m'.com b o = some v
  loc : ∀ id l, m.loc id = some l → m'.loc id = some l
  res : m'.res = m.res
  keep : ∀ id, m.res id = true → m'.loc id = m.loc id

theorem M.le.refl (m : M) : M.le m m := ⟨rfl, fun _ _ _ h => h, fun _ _ h => h, rfl, fun _ _ => rfl⟩
theorem M.le.trans {a b c : M} (h : M.le a b) (k : M.le b c) : M.le a c :=
  ⟨k.w0.trans h.w0, fun _ _ _ x => k.com _ _ _ (h.com _ _ _ x), fun _ _ x => k.loc _ _ (h.loc _ _ x), k.res.trans h.res, fun id x => (k.keep id (by rw [h.res]; exact x)).trans (h.keep id x)⟩

/-- Values that fill one cell. -/
def hone : HV → Bool
  | .agg _ | .tup _ | .junk => false
  | .lit v => v.oneCell'
  | _ => true
def Ones (cs : List HV) : Prop := ∀ x ∈ cs, hone x = true

inductive Rep (m : M) : HV → Value → Prop
  | lit (v : Value) : Rep m (.lit v) v
  | junk (v : Value) : Rep m .junk v
  | ptr (id off : Nat) (l : Loc) (hl : m.loc id = some l) : Rep m (.ptr id off) (.pointer (some ⟨l.b, l.base + off, none⟩))
  | elt (cs : List HV) (off b o : Nat) (f : Nat → Value) (ho : Ones cs) (hc : ∀ j, j < cs.length → m.com b (o + j) = some (f j))
      (hr : ∀ j x, cs[j]? = some x → Rep m x (f j)) : Rep m (.elt cs off) (.pointer (some ⟨b, o + off, none⟩))
  | list0 (sz : Nat) (a : Option Addr) (cap : Nat) (full : Bool) (hf : full = true → cap = 0) : Rep m (.list sz 0 [] full) (.slice a 0 cap)
  | ne (sz : Nat) (a : Addr) (cap : Nat) : Rep m (.ne sz) (.slice (some a) 0 cap)
  | nils (cap : Nat) : Rep m .nils (.slice none 0 cap)
  | list (sz n : Nat) (cs : List HV) (full : Bool) (cap b o : Nat) (f : Nat → Value) (hn : n ≤ cap) (hf : full = true → cap = n) (hlen : cs.length = n * sz) (ho : Ones cs)
      (hc : ∀ j, j < cs.length → m.com b (o + j) = some (f j)) (hr : ∀ j x, cs[j]? = some x → Rep m x (f j)) :
      Rep m (.list sz n cs full) (.slice (some ⟨b, o, none⟩) n cap)
  | view0 (id off sz : Nat) (full : Bool) (a : Addr) : Rep m (.view id off sz 0 full) (.slice (some a) 0 0)
  | view (id off sz n : Nat) (full : Bool) (cap : Nat) (l : Loc) (hl : m.loc id = some l) (hn : n ≤ cap) (hf : full = true → cap = n)
      (hlim : l.base + off + cap * sz ≤ l.lim) : Rep m (.view id off sz n full) (.slice (some ⟨l.b, l.base + off, none⟩) n cap)
  | map (id : Nat) (l : Loc) (hl : m.loc id = some l) : Rep m (.map id) (.map (some l.b))
  | agg (cs : List HV) (vs : Array Value) (ho : Ones cs) (hs : vs.size = cs.length) (hr : ∀ j x, cs[j]? = some x → Rep m x (vs.getD j undef)) : Rep m (.agg cs) (.agg vs)
  | tup (cs : List HV) (vs : Array Value) (hs : vs.size = cs.length) (hr : ∀ j x, cs[j]? = some x → Rep m x (vs.getD j undef)) : Rep m (.tup cs) (.tuple vs)
  | func (fn : Fn) (cs : List HV) (vs : Array Value) (hs : vs.size = cs.length) (hr : ∀ j x, cs[j]? = some x → Rep m x (vs.getD j undef)) :
      Rep m (.func fn cs) (.func fn #[] vs)

theorem Rep.mono {m m' : M} {x : HV} {v : Value} (h : Rep m x v) (hm : M.le m m') : Rep m' x v := by
  induction h with
  | lit v => exact .lit v
  | junk v => exact .junk v
  | ptr id off l hl => exact .ptr id off l (hm.loc _ _ hl)
  | elt cs off b o f ho hc hr ih => exact .elt cs off b o f ho (fun j hj => hm.com _ _ _ (hc j hj)) ih
  | list0 sz a cap full hf => exact .list0 sz a cap full hf
  | ne sz a cap => exact .ne sz a cap
  | nils cap => exact .nils cap
  | list sz n cs full cap b o f hn hf hlen ho hc hr ih => exact .list sz n cs full cap b o f hn hf hlen ho (fun j hj => hm.com _ _ _ (hc j hj)) ih
  | view0 id off sz full a => exact .view0 id off sz full a
  | view id off sz n full cap l hl hn hf hlim => exact .view id off sz n full cap l (hm.loc _ _ hl) hn hf hlim
  | map id l hl => exact .map id l (hm.loc _ _ hl)
  | agg cs vs ho hs hr ih => exact .agg cs vs ho hs ih
  | tup cs vs hs hr ih => exact .tup cs vs hs ih
  | func fn cs vs hs hr ih => exact .func fn cs vs hs ih

/-- Cells of values. -/
def Reps (m : M) (xs : List HV) (vs : List Value) : Prop := Ones xs ∧ vs.length = xs.length ∧ ∀ j x, xs[j]? = some x → Rep m x (vs.getD j undef)
theorem Reps.mono {m m' : M} {xs : List HV} {vs : List Value} (h : Reps m xs vs) (hm : M.le m m') : Reps m' xs vs := ⟨h.1, h.2.1, fun j x hj => (h.2.2 j x hj).mono hm⟩

/-- The kinds of keys. -/
def keyIs (d : TypeDesc) : Value → Bool
  | .int k _ => match d with | .int k' => k == k' | _ => false
  | .string _ => match d with | .string => true | _ => false
  | .bool _ => match d with | .bool => true | _ => false
  | _ => false

theorem isKey_of {d : TypeDesc} {k : Value} (h : keyIs d k = true) : IsKey d k := by
  cases k <;> cases d <;> simp_all [keyIs, IsKey]
/-- What an object is in a world. -/
def ObjAt (m : M) (ob : HObj) (l : Loc) (w : World) : Prop :=
  match ob with
  | .cells cs => Ones cs ∧ ∃ c t fr, w.heap[l.b]? = some (.cells c t fr) ∧ c.size = l.lim ∧ l.base + cs.length ≤ l.lim ∧ (fr.1 = fr.2 ∨ l.lim ≤ fr.1) ∧ ∀ j x, cs[j]? = some x → Rep m x (c.getD (l.base + j) undef)
  | .map d f n => ∃ es clock, w.heap[l.b]? = some (.map es clock) ∧ es.size = n ∧ Stamped es clock ∧ (∀ e ∈ es.toList, IsKey d e.key) ∧
      (∀ k x, f k = some x → ∃ e ∈ es.toList, e.key = k ∧ Rep m x e.val) ∧ ∀ e ∈ es.toList, (f e.key).isSome = true

structure Rel (m : M) (s : HS) (w : World) : Prop where
  below : Below m.w0.heap.size m.w0 w
  com : ∀ b o v, m.com b o = some v → w.cell? ⟨b, o, none⟩ = some v
  objs : ∀ id ob l, s id = some ob → m.loc id = some l → ObjAt m ob l w
  own : ∀ id ob l, s id = some ob → m.loc id = some l → m.w0.heap.size ≤ l.b ∧ ∀ o, m.com l.b o = none
  inj : ∀ id id' ob ob' l l', s id = some ob → s id' = some ob' → m.loc id = some l → m.loc id' = some l' → l.b = l'.b → id = id'
  fin : ∃ N, ∀ id, N ≤ id → s id = none ∧ m.loc id = none ∧ m.res id = false

theorem ObjAt.mono {m m' : M} {ob : HObj} {l : Loc} {w : World} (h : ObjAt m ob l w) (hm : M.le m m') : ObjAt m' ob l w := by
  cases ob with
  | cells cs => obtain ⟨h0, c, t, fr, h1, h2, h3, h4, h5⟩ := h; exact ⟨h0, c, t, fr, h1, h2, h3, h4, fun j x hj => (h5 j x hj).mono hm⟩
  | map d f n => obtain ⟨es, cl, h1, h2, h3, h6, h4, h5⟩ := h; exact ⟨es, cl, h1, h2, h3, h6, fun k x hk => (h4 k x hk).imp fun e he => ⟨he.1, he.2.1, he.2.2.mono hm⟩, h5⟩
theorem ObjAt.of_block {m : M} {ob : HObj} {l : Loc} {w w' : World} (h : ObjAt m ob l w) (hb : w'.heap[l.b]? = w.heap[l.b]?) : ObjAt m ob l w' := by
  cases ob with
  | cells cs => obtain ⟨h0, c, t, fr, h1, h2⟩ := h; exact ⟨h0, c, t, fr, hb.trans h1, h2⟩
  | map d f n => obtain ⟨es, cl, h1, h2⟩ := h; exact ⟨es, cl, hb.trans h1, h2⟩
theorem ObjAt.lt {m : M} {ob : HObj} {l : Loc} {w : World} (h : ObjAt m ob l w) : l.b < w.heap.size := by
  cases ob with
  | cells cs => obtain ⟨h0, c, t, fr, h1, h2⟩ := h; exact (Array.getElem?_eq_some_iff.1 h1).1
  | map d f n => obtain ⟨es, cl, h1, h2⟩ := h; exact (Array.getElem?_eq_some_iff.1 h1).1

/-- Less is known. -/
theorem HS.le_none {s s' : HS} (h : HS.le s' s) {id : Nat} (hn : s id = none) : s' id = none := by
  rcases hx : s' id with _ | o
  · rfl
  · rw [h _ _ hx] at hn; cases hn
theorem Rel.weaken {m : M} {s s' : HS} {w : World} (h : Rel m s w) (hs : HS.le s' s) : Rel m s' w := by
  obtain ⟨N, hN⟩ := h.fin
  exact ⟨h.below, h.com, fun id ob l hi hl => h.objs id ob l (hs _ _ hi) hl, fun id ob l hi hl => h.own id ob l (hs _ _ hi) hl,
    fun id id' ob ob' l l' h1 h2 h3 h4 h5 => h.inj id id' ob ob' l l' (hs _ _ h1) (hs _ _ h2) h3 h4 h5,
    N, fun id hi => ⟨HS.le_none hs (hN id hi).1, (hN id hi).2⟩⟩
theorem Rel.drew {m : M} {s : HS} {w : World} (h : Rel m s w) : Rel m s w.drew :=
  ⟨h.below.drew, h.com, fun id ob l hi hl => (h.objs id ob l hi hl).of_block rfl, h.own, h.inj, h.fin⟩
theorem cell_block {w w' : World} {b o : Nat} (h : w'.heap[b]? = w.heap[b]?) : w'.cell? ⟨b, o, none⟩ = w.cell? ⟨b, o, none⟩ := by simp [World.cell?, h]
theorem cell_lt {w : World} {b o : Nat} {v : Value} (h : w.cell? ⟨b, o, none⟩ = some v) : b < w.heap.size := by
  rcases Nat.lt_or_ge b w.heap.size with h' | h'
  · exact h'
  · simp [World.cell?, Array.getElem?_eq_none h'] at h
/-- A new object in a new block. -/
theorem Rel.new {m : M} {s : HS} {w : World} (h : Rel m s w) (o : Obj) (lim : Nat) : ∃ id, s id = none ∧ m.loc id = none ∧ m.res id = false ∧
    ∀ ob, ObjAt { m with loc := fun k => if k = id then some ⟨w.heap.size, 0, lim⟩ else m.loc k } ob ⟨w.heap.size, 0, lim⟩ (w.alloc o) →
      M.le m { m with loc := fun k => if k = id then some ⟨w.heap.size, 0, lim⟩ else m.loc k } ∧
      Rel { m with loc := fun k => if k = id then some ⟨w.heap.size, 0, lim⟩ else m.loc k } (s.set id ob) (w.alloc o) := by
  obtain ⟨N, hN⟩ := h.fin
  obtain ⟨h1, h2, h3⟩ := hN N (Nat.le_refl _)
  refine ⟨N, h1, h2, h3, fun ob hob => ?_⟩
  have hle : M.le m { m with loc := fun k => if k = N then some ⟨w.heap.size, 0, lim⟩ else m.loc k } := by
    refine ⟨rfl, fun _ _ _ x => x, fun id l hl => ?_, rfl, fun id hr => ?_⟩
    · show (if id = N then _ else m.loc id) = some l
      rw [if_neg (fun e => by rw [e, h2] at hl; cases hl)]; exact hl
    · show (if id = N then _ else m.loc id) = m.loc id
      rw [if_neg (fun e => by rw [e, h3] at hr; cases hr)]
  refine ⟨hle, ?_⟩
  have hcomlt : ∀ b o v, m.com b o = some v → b < w.heap.size := fun b o v hc => cell_lt (h.com b o v hc)
  refine ⟨h.below.alloc h.below.size o, ?_, ?_, ?_, ?_, ?_⟩
  · intro b o' v hc
    exact (cell_block (Below.heap_alloc w o b (hcomlt _ _ _ hc))).trans (h.com _ _ _ hc)
  · intro id ob' l hi hl
    by_cases he : id = N
    · subst he
      simp only [HS.set, if_true] at hi
      simp only [if_true] at hl
      cases hi; cases hl
      exact hob
    · simp only [HS.set, if_neg he] at hi
      simp only [if_neg he] at hl
      have := h.objs id ob' l hi hl
      exact (this.mono hle).of_block (Below.heap_alloc w o l.b this.lt)
  · intro id ob' l hi hl
    by_cases he : id = N
    · subst he
      simp only [if_true] at hl
      cases hl
      refine ⟨h.below.size, fun o' => ?_⟩
      cases hc : m.com w.heap.size o' with
      | none => rfl
      | some v => exact absurd (hcomlt _ _ _ hc) (Nat.lt_irrefl _)
    · simp only [HS.set, if_neg he] at hi
      simp only [if_neg he] at hl
      exact h.own id ob' l hi hl
  · intro id id' oa ob' l l' hi hi' hl hl' hb
    by_cases he : id = N <;> by_cases he' : id' = N
    · rw [he, he']
    · simp only [HS.set, if_neg he'] at hi'
      simp only [if_neg he'] at hl'
      simp only [if_pos he] at hl
      cases hl
      exact absurd (h.objs id' ob' l' hi' hl').lt (by rw [← hb]; exact Nat.lt_irrefl _)
    · simp only [HS.set, if_neg he] at hi
      simp only [if_neg he] at hl
      simp only [if_pos he'] at hl'
      cases hl'
      exact absurd (h.objs id oa l hi hl).lt (by rw [hb]; exact Nat.lt_irrefl _)
    · simp only [HS.set, if_neg he] at hi
      simp only [if_neg he] at hl
      simp only [HS.set, if_neg he'] at hi'
      simp only [if_neg he'] at hl'
      exact h.inj id id' oa ob' l l' hi hi' hl hl' hb
  · refine ⟨N + 1, fun id hi => ?_⟩
    have hne : id ≠ N := by omega
    simp only [HS.set, if_neg hne]
    exact hN id (by omega)
/-- An object's cells are written. -/
theorem Rel.upd {m : M} {s : HS} {w w' : World} {id : Nat} {ob ob' : HObj} {l : Loc} (h : Rel m s w) (hi : s id = some ob) (hl : m.loc id = some l)
    (hb : ∀ b, b ≠ l.b → w'.heap[b]? = w.heap[b]?) (hos : w'.os = w.os) (htp : w'.tape = w.tape) (hout : w'.output = w.output) (hsz : w.heap.size ≤ w'.heap.size)
    (hob : ObjAt m ob' l w') : Rel m (s.set id ob') w' := by
  obtain ⟨hge, hnc⟩ := h.own id ob l hi hl
  refine ⟨⟨hos.trans h.below.os, htp.trans h.below.tape, hout.trans h.below.output, Nat.le_trans h.below.size hsz, fun k hk => (hb k (by omega)).trans (h.below.block k hk)⟩, ?_, ?_, ?_, ?_, ?_⟩
  · intro b o v hc
    have hne : b ≠ l.b := fun e => by rw [e, hnc o] at hc; cases hc
    exact (cell_block (hb b hne)).trans (h.com b o v hc)
  · intro id2 ob2 l2 hi2 hl2
    by_cases he : id2 = id
    · subst he
      rw [hl] at hl2; cases hl2
      simp only [HS.set, if_true] at hi2; cases hi2
      exact hob
    · simp only [HS.set, if_neg he] at hi2
      exact (h.objs id2 ob2 l2 hi2 hl2).of_block (hb _ (fun e => he (h.inj id2 id ob2 ob l2 l hi2 hi hl2 hl e)))
  · intro id2 ob2 l2 hi2 hl2
    by_cases he : id2 = id
    · subst he
      rw [hl] at hl2; cases hl2
      exact ⟨hge, hnc⟩
    · simp only [HS.set, if_neg he] at hi2
      exact h.own id2 ob2 l2 hi2 hl2
  · intro a b oa ob2 la lb ha hb2 hla hlb hab
    by_cases hea : a = id <;> by_cases heb : b = id
    · rw [hea, heb]
    · subst hea
      simp only [HS.set, if_neg heb] at hb2
      exact h.inj a b ob ob2 la lb hi hb2 hla hlb hab
    · subst heb
      simp only [HS.set, if_neg hea] at ha
      exact h.inj a b oa ob la lb ha hi hla hlb hab
    · simp only [HS.set, if_neg hea] at ha
      simp only [HS.set, if_neg heb] at hb2
      exact h.inj a b oa ob2 la lb ha hb2 hla hlb hab
  · obtain ⟨N, hN⟩ := h.fin
    refine ⟨max N (id + 1), fun k hk => ?_⟩
    have hne : k ≠ id := by omega
    simp only [HS.set, if_neg hne]
    exact hN k (by omega)
end Go.Proofs.Ytecnfekcflfihaa.H
