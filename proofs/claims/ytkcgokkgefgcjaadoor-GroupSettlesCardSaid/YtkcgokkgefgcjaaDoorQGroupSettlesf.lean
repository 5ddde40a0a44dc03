/- What the proof of the law GroupSettles needs, cut out of the session's own texts by a program (slim.py): part 6. -/
import Derived.Test.YtkcgokkgefgcjaaDoorQGroupSettlese
section
namespace Go.Proofs.YtkcgokkgefgcjaaDoorW.Opens
open Go.RowKit Go.WideShapes Go.Proofs.YtkcgokkgefgcjaaDoorW.PrintWords
/-- Whatever can be read as a value of type t is a value of kind d, of which Q holds. -/
def Opens (P : Program) (t : TypeId) {α : Type} (d : Kd α) (Q : α → Prop) : Prop :=
  ∀ {H : Type} (enc : TypeId × Value → H) (w : World) (base : Nat) (spare : Nat → Bool) (held : Bool) (fuel : Nat) (cs : List Value) (x : DataW H × List MemPlace),
    DataW.trod enc P w base spare held fuel t cs = some x → ∃ a : α, d.K w a cs ∧ Q a
variable {P : Program} {α β : Type}
theorem opens_int {t : TypeId} {k : IntKind} (ht : P.underlying t = some (.int k)) : Opens P t (Kd.int k) (fun n => (Lit.int k n).wf = true) := by
  intro H enc w base spare held fuel cs x h
  obtain ⟨n, rfl, _, hw⟩ := DataW.trod_int ht h
  exact ⟨n, rfl, hw⟩
theorem opens_string {t : TypeId} (ht : P.underlying t = some .string) : Opens P t Kd.string (fun s => s.size ≤ maxLen) := by
  intro H enc w base spare held fuel cs x h
  obtain ⟨s, rfl, _, hs⟩ := DataW.trod_string ht h
  exact ⟨s, rfl, hs⟩
theorem add_of_add (a : Addr) (i j : Nat) : (a.add i).add j = a.add (i + j) := by
  unfold Addr.add
  by_cases hi : i = 0 <;> by_cases hj : j = 0 <;> simp [hi, hj, Nat.add_assoc]
theorem opens_slice {t e : TypeId} (n : Nat) (ht : P.underlying t = some (.slice e)) {d : Kd α} {Q : α → Prop} (hs : P.cellsOf e = d.sz) (he : Opens P e d Q) :
    Opens P t (Kd.slice n d) (fun l => l.length ≤ maxLen ∧ ∀ x ∈ l, Q x) := by
  intro H enc w base spare held fuel cs x h
  rcases DataW.trod_slice ht h with ⟨rfl, _⟩ | ⟨a, len, cap, elems, rest, n', _, rfl, _, _, hl, hm, hlen, hel, _, _⟩
  · exact ⟨[], ⟨none, 0, rfl, Nat.le_refl _, Kd.C_nil _ _⟩, by simp, fun x hx => by simp at hx⟩
  · have each : ∀ i : Fin len, ∃ (x : α) (c : List Value), d.K w x c ∧ Q x ∧ ∀ j u, c[j]? = some u → w.cell? (a.add (i.val * d.sz + j)) = some u := by
      intro i
      have h1 := hel i.val i.isLt
      rw [List.getElem?_eq_getElem (by omega), Option.bind_eq_some_iff] at h1
      obtain ⟨c, hc, hy⟩ := h1
      obtain ⟨x, hK, hQ⟩ := he enc w base spare held n' c _ hy
      obtain ⟨_, hcl, hcc⟩ := World.cells?_some hc
      refine ⟨x, c, hK, hQ, fun j u hu => ?_⟩
      have hj : j < c.length := by
        rcases Nat.lt_or_ge j c.length with hlt | hge
        · exact hlt
        · rw [List.getElem?_eq_none hge] at hu; cases hu
      have := hcc j (by omega)
      rw [add_of_add, hs] at this
      rw [this, hu]
    let f : Fin len → α := fun i => Classical.choose (each i)
    have hf : ∀ i : Fin len, ∃ c : List Value, d.K w (f i) c ∧ Q (f i) ∧ ∀ j u, c[j]? = some u → w.cell? (a.add (i.val * d.sz + j)) = some u := fun i => Classical.choose_spec (each i)
    have hlen' : (List.ofFn f).length = len := List.length_ofFn
    have hget : ∀ j p, (List.ofFn f)[j]? = some p → ∃ hj : j < len, p = f ⟨j, hj⟩ := by
      intro j p hp
      have hj : j < len := by
        rcases Nat.lt_or_ge j len with hlt | hge
        · exact hlt
        · rw [List.getElem?_eq_none (by omega)] at hp; cases hp
      rw [List.getElem?_eq_getElem (by omega), List.getElem_ofFn] at hp
      exact ⟨hj, (Option.some.inj hp).symm⟩
    refine ⟨List.ofFn f, ⟨some a, cap, by rw [hlen'], by omega, hlen'.symm ▸ ?_⟩, by omega, ?_⟩
    · refine ⟨hlen', ?_, fun _ => ⟨a, rfl, fun j p hp => ?_⟩⟩
      · unfold maxLen at hm; omega
      · obtain ⟨hj, rfl⟩ := hget j p hp
        obtain ⟨c, hK, _, hc⟩ := hf ⟨j, hj⟩
        exact ⟨c, d.K_len hK, hK, fun i u hu => hc i u hu⟩
    · intro x hx
      obtain ⟨j, hj⟩ := List.getElem?_of_mem hx
      obtain ⟨hj', rfl⟩ := hget j x hj
      exact (hf ⟨j, hj'⟩).choose_spec.2.1
/-- The fields of a struct from the one at offset o on. -/
def OpensF (P : Program) (o : Nat) (fs : List Field) (d : Kd α) (Q : α → Prop) : Prop :=
  ∀ {H : Type} (enc : TypeId × Value → H) (w : World) (base : Nat) (spare : Nat → Bool) (held : Bool) (fuel : Nat) (cs : List Value),
    (∀ f ∈ fs, ∃ x, DataW.trod enc P w base spare held fuel f.type ((cs.drop f.offset).take (P.cellsOf f.type)) = some x) → cs.length = o + d.sz → ∃ a : α, d.K w a (cs.drop o) ∧ Q a
theorem opensF_one {o : Nat} {f : Field} {d : Kd α} {Q : α → Prop} (ho : f.offset = o) (hs : P.cellsOf f.type = d.sz) (h : Opens P f.type d Q) : OpensF P o [f] d Q := by
  intro H enc w base spare held fuel cs hx hl
  obtain ⟨x, hx⟩ := hx f (by simp)
  rw [ho, hs, List.take_of_length_le (by simp; omega)] at hx
  exact h enc w base spare held fuel _ x hx
theorem opensF_cons {o : Nat} {f : Field} {fs : List Field} {d : Kd α} {d' : Kd β} {Q : α → Prop} {Q' : β → Prop} (ho : f.offset = o) (hs : P.cellsOf f.type = d.sz) (h : Opens P f.type d Q) (hr : OpensF P (o + d.sz) fs d' Q') :
    OpensF P o (f :: fs) (Kd.pair d d') (fun x => Q x.1 ∧ Q' x.2) := by
  intro H enc w base spare held fuel cs hx hl
  have hl' : cs.length = o + (d.sz + d'.sz) := hl
  obtain ⟨x, hx1⟩ := hx f (by simp)
  rw [ho, hs] at hx1
  obtain ⟨a, ha, hq⟩ := h enc w base spare held fuel _ x hx1
  obtain ⟨b, hb, hq'⟩ := hr enc w base spare held fuel cs (fun g hg => hx g (by simp [hg])) (by omega)
  refine ⟨(a, b), ⟨_, _, ?_, ha, hb⟩, hq, hq'⟩
  rw [← List.drop_drop, List.take_append_drop]
theorem opens_struct {t : TypeId} {fs : Array Field} (ht : P.underlying t = some (.struct fs)) {d : Kd α} {Q : α → Prop} (hs : P.cellsOf t = d.sz) (h : OpensF P 0 fs.toList d Q) : Opens P t d Q := by
  intro H enc w base spare held fuel cs x hx
  obtain ⟨xs, n, _, _, hl, hxl, hf⟩ := DataW.trod_struct ht hx
  obtain ⟨a, ha, hq⟩ := h enc w base spare held n cs (fun f hm => by
    obtain ⟨i, hi⟩ := List.getElem?_of_mem hm
    have hi' : fs[i]? = some f := by rw [← hi, Array.getElem?_toList]
    have hlt : i < fs.size := by
      rcases Nat.lt_or_ge i fs.size with hlt | hge
      · exact hlt
      · rw [Array.getElem?_eq_none hge] at hi'; cases hi'
    rw [hf i f hi']
    exact ⟨_, List.getElem?_eq_getElem (by omega)⟩) (by omega)
  exact ⟨a, ha, hq⟩
theorem opens_iso {t : TypeId} {d : Kd α} {Q : α → Prop} (f : β → α) (g : α → β) (hg : ∀ a, f (g a) = a) (h : Opens P t d Q) : Opens P t (Kd.iso d f) (fun b => Q (f b)) := by
  intro H enc w base spare held fuel cs x hx
  obtain ⟨a, ha, hq⟩ := h enc w base spare held fuel cs x hx
  exact ⟨g a, (show d.K w (f (g a)) cs by rw [hg]; exact ha), (show Q (f (g a)) by rw [hg]; exact hq)⟩
/-- A parameter that is a slice. -/
theorem open_slice {t e : TypeId} {n : Nat} {d : Kd α} {Q : List α → Prop} (ht : P.underlying t = some (.slice e)) (h : Opens P t (Kd.slice n d) Q) {H : Type} {enc : TypeId × Value → H} {w : World} {base base' : Nat} {spare : Nat → Bool} {held : Bool} {r : Reach} {v : Value} {x : DataW H} {ps : List MemPlace}
    (hv : Value.okWide P w r base' t v) (hx : DataW.Trod enc P w base spare held t v x ps) : ∃ (A : Option Addr) (c : Nat) (l : List α), v = .slice A l.length c ∧ l.length ≤ c ∧ d.C w A l.length l ∧ Q l := by
  obtain ⟨a, len, cap, rfl⟩ := okWide_slice ht hv
  obtain ⟨fuel, hf⟩ := hx
  obtain ⟨l, ⟨A, c, hc, hl, hC⟩, hQ⟩ := h enc w base spare held fuel _ _ hf
  have : (Value.slice a len cap) = .slice A l.length c := by simpa [Value.cells] using hc
  exact ⟨A, c, l, this, hl, hC, hQ⟩
end Go.Proofs.YtkcgokkgefgcjaaDoorW.Opens
end
