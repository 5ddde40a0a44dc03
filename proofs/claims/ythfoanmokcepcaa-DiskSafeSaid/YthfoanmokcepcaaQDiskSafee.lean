/- What the proof of the law DiskSafe needs, cut out of the session's own texts by a program (slim.py): part 5. -/
import Derived.Test.YthfoanmokcepcaaQDiskSafed
section
namespace Go.Proofs.YthfoanmokcepcaaW.PrintMore
open Go.RowKit Go.Proofs.YthfoanmokcepcaaW.PrintWords
namespace Kd
open Go.Proofs.YthfoanmokcepcaaW.PrintWords.Kd
end Kd
namespace Kd
open Go.Proofs.YthfoanmokcepcaaW.PrintWords.Kd
section
variable {α : Type} {d : Kd α} {e base g N : Nat} {ok : Nat → Prop} {W w1 : World} {u v : Value} {xs : List α}
end
end Kd
end Go.Proofs.YthfoanmokcepcaaW.PrintMore
namespace Go.Proofs.YthfoanmokcepcaaW.PrintWords
open Go.RowKit
section
variable {P : Program} {ops : Array Oper} {rest : List Oper} {o : Oper} {a : Act} {Q : Exit → Act → World → Prop} {W : World}
end
/-- The greater of two whole numbers, as Go's max tells it. -/
def mx (a b : Int) : Int := if a < b then b else a
/-- The smaller of two whole numbers, as Go's min tells it. -/
def mn (a b : Int) : Int := if b < a then b else a
/-- A shift to the left, as Go tells it: a count beyond the width leaves nothing. -/
def shl (k : IntKind) (x y : Int) : Int := k.wrap (x * 2 ^ min y.toNat k.bits)
/-- A shift to the right: a count beyond the width leaves the sign. -/
def shr (k : IntKind) (x y : Int) : Int := x / 2 ^ min y.toNat k.bits
namespace Kd
section
variable {α : Type} {d : Kd α} {e base : Nat} {ok : Nat → Prop} {W w1 : World} {v : Value} {xs : List α}
end
section
variable {α : Type} {d : Kd α} {e base g n cap : Nat} {ok oki okp : Nat → Prop} {W : World} {xs : List α} {i : Int} {c : List Value}
end
section
variable {α : Type} {d : Kd α} {e base b b' g N : Nat} {ok ok1 : Nat → Prop} {W W2 w1 : World} {u v : Value} {xs ys : List α} {S : Nat → Prop}
end
end Kd
end Go.Proofs.YthfoanmokcepcaaW.PrintWords
namespace Go.Proofs.YthfoanmokcepcaaW.PrintWords
open Go.RowKit
namespace Kd
section
variable {α β : Type} {d : Kd α} {e base base' n m c g N' lo hi : Nat} {ok ok' S : Nat → Prop} {w W w1 : World} {A : Option Addr} {ad : Addr} {u v v1 : Value} {xs : List α}
end
end Kd
end Go.Proofs.YthfoanmokcepcaaW.PrintWords
end
section
namespace Go.Proofs.Ythfoanmokcepcaa.CK
open Go.RowKit Go.Proofs.YthfoanmokcepcaaW.PrintWords Go.Proofs.YthfoanmokcepcaaW.PrintLast Go.Proofs.YthfoanmokcepcaaW.PrintMore
set_option linter.unusedVariables false
structure S55 where
  f0 : Int
  f1 : ByteArray
  f2 : ByteArray
  f3 : (List Int)
  f4 : Int
def k55 : Kd S55 := Kd.iso (Kd.pair (Kd.int .i64) (Kd.pair Kd.string (Kd.pair Kd.string (Kd.pair (Kd.slice 5 (Kd.int .u8)) (Kd.int .i64))))) (fun x : S55 => (x.f0, x.f1, x.f2, x.f3, x.f4))
end Go.Proofs.Ythfoanmokcepcaa.CK
end
section
namespace Go.Proofs.Ythfoanmokcepcaa.DS
open Go.Proofs.Ythfoanmokcepcaa.H Go.Proofs.Ythfoanmokcepcaa.AS Go.RowKit Go.Proofs.YthfoanmokcepcaaW.PrintWords Go.Proofs.Ythfoanmokcepcaa.CK
set_option linter.unusedVariables false
theorem flat_one (k : IntKind) (l : List Int) : l.flatMap (fun n => ([.lit (.int k n)] : List HV)) = l.map fun n => .lit (.int k n) := by
  induction l with
  | nil => rfl
  | cons x r ih => simp only [List.flatMap_cons, ih]; rfl
theorem repBytes {w : World} {A : Option Addr} {c : Nat} {l : List Int} (hr : Kd.C (Kd.int .u8) w A l.length l) (hc : l.length ≤ c) : Rep (H.m0 w) (byV l) (.slice A l.length c) := by
  have := (Br.int .u8).row hr hc
  rw [flat_one] at this
  exact this
theorem repInts {w : World} {A : Option Addr} {c : Nat} {l : List Int} (hr : Kd.C (Kd.int .i64) w A l.length l) (hc : l.length ≤ c) : Rep (H.m0 w) (rowL intC 1 l) (.slice A l.length c) := (Br.int .i64).row hr hc
end Go.Proofs.Ythfoanmokcepcaa.DS
end
section
namespace Go.Proofs.Ythfoanmokcepcaa.DS
open Go.Proofs.Ythfoanmokcepcaa.H Go.Proofs.Ythfoanmokcepcaa.AS Go.RowKit Go.Proofs.YthfoanmokcepcaaW.PrintWords Go.Proofs.Ythfoanmokcepcaa.CK
set_option linter.unusedVariables false
set_option linter.unusedSimpArgs false
theorem br_congr {α : Type} {d : Kd α} {e e' : α → List HV} (h : Br d e) (he : ∀ x, e x = e' x) : Br d e' := by
  have : e = e' := funext he
  rw [← this]; exact h
def toBy (s : ByteArray) : By := s.data.toList
theorem strV_to (s : ByteArray) : strV (toBy s) = .lit (.string s) := by
  obtain ⟨⟨l⟩⟩ := s
  rfl
theorem toBy_len (s : ByteArray) : (toBy s).length = s.size := by
  obtain ⟨⟨l⟩⟩ := s
  rfl
theorem flat_map {α β γ : Type} (l : List α) (f : α → β) (g : β → List γ) : (l.map f).flatMap g = l.flatMap fun x => g (f x) := List.flatMap_map f g l
def toST (x : S55) : ST := ⟨x.f0, toBy x.f1, toBy x.f2, x.f3, x.f4⟩
theorem br55 : Br k55 (fun x => stC (toST x)) := by
  refine br_congr (Br.iso (Br.pair (Br.int .i64) (Br.pair Br.string (Br.pair Br.string (Br.pair (Br.slice 5 (Br.int .u8)) (Br.int .i64))))) (fun x : S55 => (x.f0, x.f1, x.f2, x.f3, x.f4))) ?_
  intro x
  show _ = [.lit (.int .i64 x.f0), strV (toBy x.f1), strV (toBy x.f2), byV x.f3, .lit (.int .i64 x.f4)]
  rw [strV_to, strV_to]
  unfold byV bl
  rw [← flat_one]
  rfl
theorem repSteps {w : World} {A : Option Addr} {c : Nat} {l : List S55} (hr : Kd.C k55 w A l.length l) (hc : l.length ≤ c) : Rep (H.m0 w) (rowL stC 5 (l.map toST)) (.slice A l.length c) := by
  have := br55.row hr hc
  have e1 : rows stC (l.map toST) = l.flatMap fun x => stC (toST x) := flat_map _ _ _
  have e2 : (l.map toST).length = l.length := List.length_map ..
  unfold rowL
  rw [e1, e2]
  exact this
theorem wf_int {n : Int} (h : (Lit.int .i64 n).wf = true) : -9223372036854775808 ≤ n ∧ n ≤ 9223372036854775807 := by
  simp only [Lit.wf, IntKind.min, IntKind.max, IntKind.signed, IntKind.bits, Bool.and_eq_true, decide_eq_true_eq, if_true] at h
  omega
theorem oks_of {l : List S55} (q : (l.length ≤ maxLen ∧ ∀ x_ ∈ l, ((Lit.int .i64 x_.f0).wf = true ∧ x_.f1.size ≤ maxLen ∧ x_.f2.size ≤ maxLen ∧ (x_.f3.length ≤ maxLen ∧ ∀ x__ ∈ x_.f3, (Lit.int .u8 x__).wf = true) ∧ (Lit.int .i64 x_.f4).wf = true))) : OkS (l.map toST) := by
  refine ⟨by rw [List.length_map]; exact q.1, fun m hm => ?_⟩
  obtain ⟨x, hx, rfl⟩ := List.mem_map.1 hm
  obtain ⟨-, h1, h2, ⟨h3, -⟩, h4⟩ := q.2 x hx
  obtain ⟨h5, h6⟩ := wf_int h4
  exact ⟨by show (toBy x.f1).length ≤ _; rw [toBy_len]; exact h1, by show (toBy x.f2).length ≤ _; rw [toBy_len]; exact h2, h3, h5, h6⟩
end Go.Proofs.Ythfoanmokcepcaa.DS
end
section
namespace Go.Proofs.Ythfoanmokcepcaa.YDW
open Go.Proofs.Ythfoanmokcepcaa.H Go.Proofs.Ythfoanmokcepcaa.AS Go.RowKit Go.Proofs.YthfoanmokcepcaaW.PrintWords Go.Proofs.YthfoanmokcepcaaW.PrintLast Go.Proofs.YthfoanmokcepcaaW.PrintMore Go.Proofs.Ythfoanmokcepcaa.CK
set_option linter.unusedVariables false
set_option linter.unusedSimpArgs false
theorem diskSafe_walk (A0 : Option Addr) (c0 : Nat) (l0 : List Int) (A1 : Option Addr) (c1 : Nat) (l1 : List (S55)) (a2 : Int) (A3 : Option Addr) (c3 : Nat) (l3 : List Int) (w : World) (hc0 : l0.length ≤ c0) (hr0 : Kd.C (Kd.int .u8) w A0 l0.length l0) (hc1 : l1.length ≤ c1) (hr1 : Kd.C k55 w A1 l1.length l1) (hc3 : l3.length ≤ c3) (hr3 : Kd.C (Kd.int .i64) w A3 l3.length l3) (q0 : (l0.length ≤ maxLen ∧ ∀ x_ ∈ l0, (Lit.int .u8 x_).wf = true)) (q1 : (l1.length ≤ maxLen ∧ ∀ x_ ∈ l1, ((Lit.int .i64 x_.f0).wf = true ∧ x_.f1.size ≤ maxLen ∧ x_.f2.size ≤ maxLen ∧ (x_.f3.length ≤ maxLen ∧ ∀ x__ ∈ x_.f3, (Lit.int .u8 x__).wf = true) ∧ (Lit.int .i64 x_.f4).wf = true))) (q2 : (Lit.int .i64 a2).wf = true) (q3 : (l3.length ≤ maxLen ∧ ∀ x_ ∈ l3, (Lit.int .i64 x_).wf = true)) :
    Calls Try.prog 7 #[.slice A0 l0.length c0, .slice A1 l1.length c1, .int .i64 a2, .slice A3 l3.length c3] w fun e w' => e = .returned (.bool true) ∧ Below w.heap.size w w' := by
  refine law_of (DS.safe_law l0 (l1.map DS.toST) a2 l3 (DS.oks_of q1) (DS.wf_int q2).2 s0) rfl ?_
  intro j x hj
  rcases j with _ | _ | _ | _ | j <;> simp at hj
  · subst hj; exact DS.repBytes hr0 hc0
  · subst hj; exact DS.repSteps hr1 hc1
  · subst hj; exact .lit _
  · subst hj; exact DS.repInts hr3 hc3
end Go.Proofs.Ythfoanmokcepcaa.YDW
end
section
namespace Go.Proofs.YthfoanmokcepcaaW.Opens
open Go.RowKit Go.WideShapes Go.Proofs.YthfoanmokcepcaaW.PrintWords
/-- Whatever can be read as a value of type t is a value of kind d, of which Q holds. -/
def Opens (P : Program) (t : TypeId) {α : Type} (d : Kd α) (Q : α → Prop) : Prop :=
  ∀ {H : Type} (enc : TypeId × Value → H) (w : World) (base : Nat) (spare : Nat → Bool) (held : Bool) (fuel : Nat) (cs : List Value) (x : DataW H × List MemPlace),
    DataW.trod enc P w base spare held fuel t cs = some x → ∃ a : α, d.K w a cs ∧ Q a
variable {P : Program} {α β : Type}
theorem opens_int {t : TypeId} {k : IntKind} (ht : P.underlying t = some (.int k)) : Opens P t (Kd.int k) (fun n => (Lit.int k n).wf = true) := by
  intro H enc w base spare held fuel cs x h
  obtain ⟨n, rfl, _, hw⟩ := DataW.trod_int ht h
  exact ⟨n, rfl, hw⟩
theorem opens_string {t : TypeId} (ht : P.underlying t = some .string) : Opens P t Kd.string (fun s => s.size ≤ maxLen) := by
  intro H enc w base spare held fuel cs x h
  obtain ⟨s, rfl, _, hs⟩ := DataW.trod_string ht h
  exact ⟨s, rfl, hs⟩
theorem add_of_add (a : Addr) (i j : Nat) : (a.add i).add j = a.add (i + j) := by
  unfold Addr.add
  by_cases hi : i = 0 <;> by_cases hj : j = 0 <;> simp [hi, hj, Nat.add_assoc]
theorem opens_slice {t e : TypeId} (n : Nat) (ht : P.underlying t = some (.slice e)) {d : Kd α} {Q : α → Prop} (hs : P.cellsOf e = d.sz) (he : Opens P e d Q) :
    Opens P t (Kd.slice n d) (fun l => l.length ≤ maxLen ∧ ∀ x ∈ l, Q x) := by
  intro H enc w base spare held fuel cs x h
  rcases DataW.trod_slice ht h with ⟨rfl, _⟩ | ⟨a, len, cap, elems, rest, n', _, rfl, _, _, hl, hm, hlen, hel, _, _⟩
  · exact ⟨[], ⟨none, 0, rfl, Nat.le_refl _, Kd.C_nil _ _⟩, by simp, fun x hx => by simp at hx⟩
  · have each : ∀ i : Fin len, ∃ (x : α) (c : List Value), d.K w x c ∧ Q x ∧ ∀ j u, c[j]? = some u → w.cell? (a.add (i.val * d.sz + j)) = some u := by
      intro i
      have h1 := hel i.val i.isLt
      rw [List.getElem?_eq_getElem (by omega), Option.bind_eq_some_iff] at h1
      obtain ⟨c, hc, hy⟩ := h1
      obtain ⟨x, hK, hQ⟩ := he enc w base spare held n' c _ hy
      obtain ⟨_, hcl, hcc⟩ := World.cells?_some hc
      refine ⟨x, c, hK, hQ, fun j u hu => ?_⟩
      have hj : j < c.length := by
        rcases Nat.lt_or_ge j c.length with hlt | hge
        · exact hlt
        · rw [List.getElem?_eq_none hge] at hu; cases hu
      have := hcc j (by omega)
      rw [add_of_add, hs] at this
      rw [this, hu]
    let f : Fin len → α := fun i => Classical.choose (each i)
    have hf : ∀ i : Fin len, ∃ c : List Value, d.K w (f i) c ∧ Q (f i) ∧ ∀ j u, c[j]? = some u → w.cell? (a.add (i.val * d.sz + j)) = some u := fun i => Classical.choose_spec (each i)
    have hlen' : (List.ofFn f).length = len := List.length_ofFn
    have hget : ∀ j p, (List.ofFn f)[j]? = some p → ∃ hj : j < len, p = f ⟨j, hj⟩ := by
      intro j p hp
      have hj : j < len := by
        rcases Nat.lt_or_ge j len with hlt | hge
        · exact hlt
        · rw [List.getElem?_eq_none (by omega)] at hp; cases hp
      rw [List.getElem?_eq_getElem (by omega), List.getElem_ofFn] at hp
      exact ⟨hj, (Option.some.inj hp).symm⟩
    refine ⟨List.ofFn f, ⟨some a, cap, by rw [hlen'], by omega, hlen'.symm ▸ ?_⟩, by omega, ?_⟩
    · refine ⟨hlen', ?_, fun _ => ⟨a, rfl, fun j p hp => ?_⟩⟩
      · unfold maxLen at hm; omega
      · obtain ⟨hj, rfl⟩ := hget j p hp
        obtain ⟨c, hK, _, hc⟩ := hf ⟨j, hj⟩
        exact ⟨c, d.K_len hK, hK, fun i u hu => hc i u hu⟩
    · intro x hx
      obtain ⟨j, hj⟩ := List.getElem?_of_mem hx
      obtain ⟨hj', rfl⟩ := hget j x hj
      exact (hf ⟨j, hj'⟩).choose_spec.2.1
/-- The fields of a struct from the one at offset o on. -/
def OpensF (P : Program) (o : Nat) (fs : List Field) (d : Kd α) (Q : α → Prop) : Prop :=
  ∀ {H : Type} (enc : TypeId × Value → H) (w : World) (base : Nat) (spare : Nat → Bool) (held : Bool) (fuel : Nat) (cs : List Value),
    (∀ f ∈ fs, ∃ x, DataW.trod enc P w base spare held fuel f.type ((cs.drop f.offset).take (P.cellsOf f.type)) = some x) → cs.length = o + d.sz → ∃ a : α, d.K w a (cs.drop o) ∧ Q a
theorem opensF_one {o : Nat} {f : Field} {d : Kd α} {Q : α → Prop} (ho : f.offset = o) (hs : P.cellsOf f.type = d.sz) (h : Opens P f.type d Q) : OpensF P o [f] d Q := by
  intro H enc w base spare held fuel cs hx hl
  obtain ⟨x, hx⟩ := hx f (by simp)
  rw [ho, hs, List.take_of_length_le (by simp; omega)] at hx
  exact h enc w base spare held fuel _ x hx
theorem opensF_cons {o : Nat} {f : Field} {fs : List Field} {d : Kd α} {d' : Kd β} {Q : α → Prop} {Q' : β → Prop} (ho : f.offset = o) (hs : P.cellsOf f.type = d.sz) (h : Opens P f.type d Q) (hr : OpensF P (o + d.sz) fs d' Q') :
    OpensF P o (f :: fs) (Kd.pair d d') (fun x => Q x.1 ∧ Q' x.2) := by
  intro H enc w base spare held fuel cs hx hl
  have hl' : cs.length = o + (d.sz + d'.sz) := hl
  obtain ⟨x, hx1⟩ := hx f (by simp)
  rw [ho, hs] at hx1
  obtain ⟨a, ha, hq⟩ := h enc w base spare held fuel _ x hx1
  obtain ⟨b, hb, hq'⟩ := hr enc w base spare held fuel cs (fun g hg => hx g (by simp [hg])) (by omega)
  refine ⟨(a, b), ⟨_, _, ?_, ha, hb⟩, hq, hq'⟩
  rw [← List.drop_drop, List.take_append_drop]
theorem opens_struct {t : TypeId} {fs : Array Field} (ht : P.underlying t = some (.struct fs)) {d : Kd α} {Q : α → Prop} (hs : P.cellsOf t = d.sz) (h : OpensF P 0 fs.toList d Q) : Opens P t d Q := by
  intro H enc w base spare held fuel cs x hx
  obtain ⟨xs, n, _, _, hl, hxl, hf⟩ := DataW.trod_struct ht hx
  obtain ⟨a, ha, hq⟩ := h enc w base spare held n cs (fun f hm => by
    obtain ⟨i, hi⟩ := List.getElem?_of_mem hm
    have hi' : fs[i]? = some f := by rw [← hi, Array.getElem?_toList]
    have hlt : i < fs.size := by
      rcases Nat.lt_or_ge i fs.size with hlt | hge
      · exact hlt
      · rw [Array.getElem?_eq_none hge] at hi'; cases hi'
    rw [hf i f hi']
    exact ⟨_, List.getElem?_eq_getElem (by omega)⟩) (by omega)
  exact ⟨a, ha, hq⟩
theorem opens_iso {t : TypeId} {d : Kd α} {Q : α → Prop} (f : β → α) (g : α → β) (hg : ∀ a, f (g a) = a) (h : Opens P t d Q) : Opens P t (Kd.iso d f) (fun b => Q (f b)) := by
  intro H enc w base spare held fuel cs x hx
  obtain ⟨a, ha, hq⟩ := h enc w base spare held fuel cs x hx
  exact ⟨g a, (show d.K w (f (g a)) cs by rw [hg]; exact ha), (show Q (f (g a)) by rw [hg]; exact hq)⟩
/-- A parameter that is a slice. -/
theorem open_slice {t e : TypeId} {n : Nat} {d : Kd α} {Q : List α → Prop} (ht : P.underlying t = some (.slice e)) (h : Opens P t (Kd.slice n d) Q) {H : Type} {enc : TypeId × Value → H} {w : World} {base base' : Nat} {spare : Nat → Bool} {held : Bool} {r : Reach} {v : Value} {x : DataW H} {ps : List MemPlace}
    (hv : Value.okWide P w r base' t v) (hx : DataW.Trod enc P w base spare held t v x ps) : ∃ (A : Option Addr) (c : Nat) (l : List α), v = .slice A l.length c ∧ l.length ≤ c ∧ d.C w A l.length l ∧ Q l := by
  obtain ⟨a, len, cap, rfl⟩ := okWide_slice ht hv
  obtain ⟨fuel, hf⟩ := hx
  obtain ⟨l, ⟨A, c, hc, hl, hC⟩, hQ⟩ := h enc w base spare held fuel _ _ hf
  have : (Value.slice a len cap) = .slice A l.length c := by simpa [Value.cells] using hc
  exact ⟨A, c, l, this, hl, hC, hQ⟩
end Go.Proofs.YthfoanmokcepcaaW.Opens
end
