/- The H layer, 14: what the arguments of a law say, in H values. -/
import Derived.Test.YtecnfekcflfihaaHB
import Derived.Test.YtecnfekcflfihaaWWords
namespace Go.Proofs.Ytecnfekcflfihaa.H
open Go.RowKit Go.MapKept Go.Proofs.YtecnfekcflfihaaW.PrintWords
set_option linter.unusedVariables false
set_option linter.unusedSimpArgs false
variable {P : Program}

def m0 (w : World) : M :=
  { w0 := w, com := fun b o => match w.cell? ⟨b, o, none⟩ with | some v => if v.oneCell' then some v else none | none => none, loc := fun _ => none, res := fun _ => false }
theorem m0_com {w : World} {b o : Nat} {v : Value} : (m0 w).com b o = some v ↔ w.cell? ⟨b, o, none⟩ = some v ∧ v.oneCell' = true := by
  show (match w.cell? ⟨b, o, none⟩ with | some v => if v.oneCell' then some v else none | none => none) = some v ↔ _
  cases h : w.cell? ⟨b, o, none⟩ with
  | none => simp
  | some u =>
    simp only
    split
    · rename_i h1; simp only [Option.some.injEq]; constructor
      · rintro rfl; exact ⟨rfl, h1⟩
      · exact fun h => h.1
    · rename_i h1; simp only [Option.some.injEq, false_iff, not_and, reduceCtorEq]; rintro rfl; exact h1
def s0 : HS := fun _ => none
theorem rel0 (w : World) : Rel (m0 w) s0 w :=
  ⟨Below.refl _ _, fun b o v h => (m0_com.1 h).1, (fun id ob l h => by cases h), (fun id ob l h => by cases h), (fun id id' ob ob' l l' h => by cases h), 0, fun id _ => ⟨rfl, rfl, rfl⟩⟩
/-- A kind's cells, as H values. -/
structure Br {α : Type} (d : Kd α) (enc : α → List HV) : Prop where
  pos : 0 < d.sz
  len : ∀ x, (enc x).length = d.sz
  rep : ∀ w x cs, d.K w x cs → Reps (m0 w) (enc x) cs
theorem reps1 {m : M} {x : HV} {v : Value} (h : Rep m x v) (ho : hone x = true) : Reps m [x] [v] :=
  ⟨fun z hz => by simp at hz; subst hz; exact ho, rfl, fun j z hj => by cases j with | zero => simp at hj; subst hj; exact h | succ j => simp at hj⟩
theorem Br.int (k : IntKind) : Br (Kd.int k) (fun n => [.lit (.int k n)]) := ⟨Nat.one_pos, fun _ => rfl, fun w x cs h => by rw [show cs = [.int k x] from h]; exact reps1 (.lit _) rfl⟩
theorem Br.bool : Br Kd.bool (fun b => [.lit (.bool b)]) := ⟨Nat.one_pos, fun _ => rfl, fun w x cs h => by rw [show cs = [.bool x] from h]; exact reps1 (.lit _) rfl⟩
theorem Br.string : Br Kd.string (fun b => [.lit (.string b)]) := ⟨Nat.one_pos, fun _ => rfl, fun w x cs h => by rw [show cs = [.string x] from h]; exact reps1 (.lit _) rfl⟩
theorem Br.pair {α β : Type} {a : Kd α} {b : Kd β} {ea : α → List HV} {eb : β → List HV} (ha : Br a ea) (hb : Br b eb) : Br (Kd.pair a b) (fun x => ea x.1 ++ eb x.2) :=
  ⟨Nat.lt_of_lt_of_le ha.pos (Nat.le_add_right _ _), fun x => by rw [List.length_append, ha.len, hb.len]; rfl, fun w x cs h => by
    obtain ⟨c0, c1, rfl, h0, h1⟩ := h
    exact (ha.rep w _ _ h0).append (hb.rep w _ _ h1)⟩
theorem Br.iso {α β : Type} {d : Kd α} {e : α → List HV} (h : Br d e) (f : β → α) : Br (Kd.iso d f) (fun x => e (f x)) := ⟨h.pos, fun x => h.len _, fun w x cs hk => h.rep w _ _ hk⟩
theorem flat_at {α : Type} {enc : α → List HV} {sz : Nat} (hlen : ∀ x, (enc x).length = sz) (hpos : 0 < sz) : ∀ (xs : List α) (j : Nat), (xs.flatMap enc)[j]? = (xs[j / sz]?).bind fun x => (enc x)[j % sz]?
  | [], j => by simp
  | x :: xs, j => by
    rw [List.flatMap_cons]
    by_cases h : j < sz
    · rw [List.getElem?_append_left (by rw [hlen]; exact h), Nat.div_eq_of_lt h, Nat.mod_eq_of_lt h]; simp
    · rw [List.getElem?_append_right (by rw [hlen]; omega), hlen, flat_at hlen hpos xs]
      have h1 : j / sz = (j - sz) / sz + 1 := by rw [Nat.div_eq_sub_div hpos (by omega)]
      have h2 : j % sz = (j - sz) % sz := Nat.mod_eq_sub_mod (by omega)
      rw [h1, h2]; simp
theorem flat_len {α : Type} {enc : α → List HV} {sz : Nat} (hlen : ∀ x, (enc x).length = sz) : ∀ xs : List α, (xs.flatMap enc).length = xs.length * sz
  | [] => by simp
  | x :: xs => by rw [List.flatMap_cons, List.length_append, hlen, flat_len hlen xs, List.length_cons, Nat.add_mul]; omega
theorem Br.row {α : Type} {d : Kd α} {enc : α → List HV} (h : Br d enc) {w : World} {A : Option Addr} {n c : Nat} {xs : List α} (hr : d.C w A n xs) (hc : n ≤ c) : Rep (m0 w) (.list d.sz n (xs.flatMap enc) false) (.slice A n c) := by
  obtain ⟨h1, h2, h3⟩ := hr
  rcases Nat.eq_zero_or_pos n with hn | hn
  · subst hn
    have : xs = [] := List.eq_nil_of_length_eq_zero h1
    subst this
    exact .list0 _ _ _ _ (fun h => by cases h)
  · obtain ⟨ad, rfl, hx⟩ := h3 hn
    have hlenF := flat_len h.len xs
    rw [h1] at hlenF
    -- each cell
    have key : ∀ j, j < n * d.sz → ∃ v y, w.cell? (ad.add j) = some v ∧ v.oneCell' = true ∧ (xs.flatMap enc)[j]? = some y ∧ Rep (m0 w) y v ∧ hone y = true := by
      intro j hj
      have hq : j / d.sz < xs.length := by rw [h1]; exact Nat.div_lt_of_lt_mul (by rw [Nat.mul_comm]; exact hj)
      have hxq : xs[j / d.sz]? = some xs[j / d.sz] := by simp [hq]
      obtain ⟨cs, hl, hk, hcell⟩ := hx _ _ hxq
      have hrp := h.rep w _ _ hk
      have hm : j % d.sz < cs.length := by rw [hl]; exact Nat.mod_lt _ h.pos
      have hcj : cs[j % d.sz]? = some cs[j % d.sz] := by simp [hm]
      have hm2 : j % d.sz < (enc xs[j / d.sz]).length := by rw [h.len]; exact Nat.mod_lt _ h.pos
      have hy : (enc xs[j / d.sz])[j % d.sz]? = some (enc xs[j / d.sz])[j % d.sz] := by simp [hm2]
      refine ⟨cs[j % d.sz], (enc xs[j / d.sz])[j % d.sz], ?_, d.K_one hk _ (List.getElem_mem hm), ?_, ?_, hrp.1 _ (List.getElem_mem hm2)⟩
      · have := hcell _ _ hcj
        rwa [Nat.div_add_mod' j d.sz] at this
      · rw [flat_at h.len h.pos, hxq]; exact hy
      · have := hrp.2.2 _ _ hy
        rwa [show cs.getD (j % d.sz) undef = cs[j % d.sz] from by simp [List.getD, hm]] at this
    have hspot : ad.spot = none := by
      obtain ⟨v, y, hv, -⟩ := key 0 (Nat.mul_pos hn h.pos)
      have e : ad.add 0 = ad := by unfold Addr.add; rfl
      rw [e] at hv
      unfold World.cell? at hv
      split at hv
      · split at hv
        · cases hv
        · rename_i hs; simpa using hs
      · cases hv
    obtain ⟨b, o, sp⟩ := ad
    simp only at hspot; subst hspot
    refine .list d.sz n _ false c b o (fun j => (w.cell? ⟨b, o + j, none⟩).getD undef) hc (fun h => by cases h) hlenF (fun x hx => ?_) (fun j hj => ?_) (fun j x hj => ?_)
    · obtain ⟨j, hj⟩ := List.getElem?_of_mem hx
      have hlt := (List.getElem?_eq_some_iff.1 hj).1
      obtain ⟨v, y, g1, g2, g3, g4, g5⟩ := key j (by omega)
      rw [g3] at hj; cases hj; exact g5
    · obtain ⟨v, y, g1, g2, g3, g4, g5⟩ := key j (by omega)
      rw [add_loc] at g1
      rw [g1]; exact m0_com.2 ⟨g1, g2⟩
    · have hlt := (List.getElem?_eq_some_iff.1 hj).1
      obtain ⟨v, y, g1, g2, g3, g4, g5⟩ := key j (by omega)
      rw [add_loc] at g1
      rw [g1]; rw [g3] at hj; cases hj; exact g4
theorem Br.slice {α : Type} (e : Nat) {d : Kd α} {enc : α → List HV} (h : Br d enc) : Br (Kd.slice e d) (fun xs => [.list d.sz xs.length (xs.flatMap enc) false]) :=
  ⟨Nat.one_pos, fun _ => rfl, fun w xs cs hk => by
    obtain ⟨A, c, rfl, hc, hr⟩ := hk
    exact reps1 (h.row hr hc) rfl⟩
/-- From the H layer to the law. -/
theorem law_of {f : FuncId} {args : List HV} {cargs : Array Value} {w : World} (h : HC P f args s0 fun v _ => v = .lit (.bool true)) (hn : cargs.size = args.length) (ha : ∀ (j : Nat) x, args[j]? = some x → Rep (m0 w) x (cargs.getD j undef)) :
    Calls P f cargs w fun e w' => e = .returned (.bool true) ∧ Below w.heap.size w w' := by
  refine (h (m0 w) w cargs (rel0 w) hn ha).mono ?_
  rintro e w' ⟨cv, v, s', m', rfl, h1, h2, h3, rfl⟩
  cases h3
  refine ⟨rfl, ?_⟩
  have := h2.below
  rw [h1.w0] at this
  exact this
end Go.Proofs.Ytecnfekcflfihaa.H
