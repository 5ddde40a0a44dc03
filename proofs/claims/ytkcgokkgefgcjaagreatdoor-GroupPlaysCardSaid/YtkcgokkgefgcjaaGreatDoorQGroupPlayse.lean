/- What the proof of the law GroupPlays needs, cut out of the session's own texts by a program (slim.py): part 5. -/
import Derived.Test.YtkcgokkgefgcjaaGreatDoorQGroupPlaysd
section
section
namespace Go.Proofs.YtkcgokkgefgcjaaGreatDoor.AS
open Go.Proofs.YtkcgokkgefgcjaaGreatDoor.H Go.Proofs.YtkcgokkgefgcjaaGreatDoor.G0 Go.Proofs.YtkcgokkgefgcjaaGreatDoor.G1
set_option linter.unusedVariables false
set_option linter.unusedSimpArgs false
set_option maxRecDepth 100000
abbrev By := List UInt8
abbrev bl_ (a b : By) : Bool := Op.bytesLess a b
theorem bl_irrefl : ∀ a : By, bl_ a a = false
  | [] => rfl
  | x :: a => by simp only [bl_, Op.bytesLess]; have := bl_irrefl a; simp [bl_] at this; simp [this]
theorem bl_tri : ∀ a b : By, bl_ a b = false → a = b ∨ bl_ b a = true
  | [], [], _ => .inl rfl
  | [], y :: b, h => by simp [bl_, Op.bytesLess] at h
  | x :: a, [], _ => .inr rfl
  | x :: a, y :: b, h => by
    simp only [bl_, Op.bytesLess, Bool.or_eq_false_iff, Bool.and_eq_false_iff, decide_eq_false_iff_not] at h
    obtain ⟨h1, h2⟩ := h
    by_cases e : x = y
    · subst e
      have h3 : bl_ a b = false := by
        rcases h2 with h2 | h2
        · simp at h2
        · exact h2
      rcases bl_tri a b h3 with rfl | h4
      · exact .inl rfl
      · refine .inr ?_
        simp only [bl_, Op.bytesLess, Bool.or_eq_true, Bool.and_eq_true]
        exact .inr ⟨by simp, h4⟩
    · refine .inr ?_
      simp only [bl_, Op.bytesLess, Bool.or_eq_true, Bool.and_eq_true, decide_eq_true_eq]
      left
      have h5 : ¬ x < y := by simpa using h1
      rcases UInt8.lt_or_lt_of_ne e with h6 | h6
      · exact absurd h6 h5
      · exact h6
theorem bl_trans : ∀ a b c : By, bl_ a b = true → bl_ b c = true → bl_ a c = true
  | _, b, [], _, h => by cases b <;> simp [bl_, Op.bytesLess] at h
  | _, [], z :: c, h, _ => by rename_i a; cases a <;> simp [bl_, Op.bytesLess] at h
  | [], y :: b, z :: c, _, _ => rfl
  | x :: a, y :: b, z :: c, h, k => by
    simp only [bl_, Op.bytesLess, Bool.or_eq_true, Bool.and_eq_true, decide_eq_true_eq, beq_iff_eq] at h k ⊢
    rcases h with h | ⟨rfl, h⟩ <;> rcases k with k | ⟨rfl, k⟩
    · exact .inl (UInt8.lt_trans h k)
    · exact .inl h
    · exact .inl k
    · exact .inr ⟨rfl, bl_trans a b c h k⟩
theorem bl_asymm {a b : By} (h : bl_ a b = true) : bl_ b a = false := by
  cases e : bl_ b a with
  | false => rfl
  | true => have := bl_trans _ _ _ h e; rw [bl_irrefl] at this; cases this
/-- An order by names. -/
theorem ordr_name {α : Type} (nm : α → By) : Ordr fun x y => bl_ (nm x) (nm y) := ⟨fun x y h => bl_asymm h, fun x y w h1 h2 => by
  cases e : bl_ (nm w) (nm x) with
  | false => rfl
  | true =>
    rcases bl_tri _ _ h2 with h3 | h3
    · rw [h3, h1] at e; cases e
    · have := bl_trans _ _ _ h3 e
      rw [h1] at this; cases this⟩
theorem toList_go (s : ByteArray) : ∀ (k i : Nat) (r : List UInt8), s.size - i = k → i ≤ s.size → ByteArray.toList.loop s i r = r.reverse ++ s.data.toList.drop i := by
  intro k
  induction k with
  | zero =>
    intro i r h hi
    have : i = s.size := by omega
    unfold ByteArray.toList.loop
    rw [if_neg (by omega)]
    have e : s.data.toList.drop i = [] := List.drop_of_length_le (by rw [this]; show s.data.toList.length ≤ s.data.size; simp)
    rw [e, List.append_nil]
  | succ k ih =>
    intro i r h hi
    have hlt : i < s.size := by omega
    unfold ByteArray.toList.loop
    rw [if_pos hlt, ih (i + 1) _ (by omega) (by omega)]
    have hlt2 : i < s.data.toList.length := by
      have : s.data.toList.length = s.data.size := by simp
      rw [this]; exact hlt
    rw [List.drop_eq_getElem_cons hlt2, List.reverse_cons, List.append_assoc]
    congr 1
    show [s.data[i]!] ++ _ = _
    rw [getElem!_pos s.data i (by simpa using hlt2)]
    rfl
theorem toList_data (s : ByteArray) : s.toList = s.data.toList := by
  unfold ByteArray.toList
  rw [toList_go s s.size 0 [] (by omega) (by omega)]
  simp
theorem toL (a : By) : (⟨a.toArray⟩ : ByteArray).toList = a := by rw [toList_data]
theorem str_lt (a b : By) : Op.bytesLess (⟨a.toArray⟩ : ByteArray).toList (⟨b.toArray⟩ : ByteArray).toList = bl_ a b := by rw [toL, toL]
def strV (k : By) : HV := .lit (.string ⟨k.toArray⟩)
def strC (k : By) : List HV := [strV k]
structure Mem where
  id : By
  tp : Option (List By)
structure Top where
  name : By
  parts : Int
def memC (m : Mem) : List HV := [strV m.id, rowV strC 1 m.tp]
def topC (t : Top) : List HV := [strV t.name, .lit (.int .i64 t.parts)]
theorem memC_len (m : Mem) : (memC m).length = 2 := rfl
theorem topC_len (m : Top) : (topC m).length = 2 := rfl
theorem memC_one (m : Mem) : ∀ y ∈ memC m, hone y = true := by
  intro y hy
  simp only [memC, List.mem_cons, List.not_mem_nil, or_false] at hy
  rcases hy with rfl | rfl
  · rfl
  · cases m.tp <;> rfl
theorem topC_one (m : Top) : ∀ y ∈ topC m, hone y = true := by
  intro y hy
  simp only [topC, List.mem_cons, List.not_mem_nil, or_false] at hy
  rcases hy with rfl | rfl <;> rfl
def m0 : Mem := ⟨[], none⟩
def t0 : Top := ⟨[], 0⟩
abbrev ltM (a b : Mem) : Bool := bl_ a.id b.id
abbrev ltT (a b : Top) : Bool := bl_ a.name b.name
section
variable {α : Type} {enc : α → List HV} {z : α} {rest : List HV} {s : HS} {q : Nat} {lt : α → α → Bool} {N : Nat} {f : Bool} {cmp : HV}
theorem sym_all {P : Program} {gs : Nat} (step : ∀ (M : List α) (a m b : Nat) (Q : HV → HS → Prop), SymOk P gs enc 2 z lt rest s q N f cmp (b - a) → M.length = N → a < m → m < b → b ≤ N → SO z lt M a m → SO z lt M m b → (∀ M', Kept z M M' a b → SO z lt M' a b → Q (.tup []) (Lay enc rest s q M')) →
    HC P gs [.view q 0 2 N f, .lit (.int .i64 (a : Int)), .lit (.int .i64 (m : Int)), .lit (.int .i64 (b : Int)), cmp] (Lay enc rest s q M) Q) : ∀ d, SymOk P gs enc 2 z lt rest s q N f cmp d
  | 0 => fun M a m b Q h => by omega
  | d + 1 => fun M a m b Q h h1 h2 h3 h4 h5 h6 h7 => step M a m b Q (fun M' a' m' b' Q' k => sym_all step d M' a' m' b' Q' (by omega)) h1 h2 h3 h4 h5 h6 h7
theorem sort53 (z : α) (hO : Ordr lt) (h : ∀ x, (enc x).length = 2) (ho : ∀ x, ∀ y ∈ enc x, hone y = true) (hc : CmpOk Tryz.prog cmp enc lt rest s q) {M : List α} {Q : HV → HS → Prop} (hl : M.length < 1099511627776)
    (hQ : ∀ M', M'.Perm M → M'.Pairwise (fun x y => lt y x = false) → Q (.tup []) (Lay enc rest s q M')) :
    HC Tryz.prog 112 [.view q 0 2 M.length f, cmp] (Lay enc rest s q M) Q := by
  obtain ⟨N, hN⟩ : ∃ N, M.length = N := ⟨_, rfl⟩
  rw [hN] at hl ⊢
  have hw : SwrOk Tryz.prog 127 enc 2 z rest s q N f cmp := fun M p r n Q h1 h2 h3 h4 => HC127 (swr_ok (P := Tryz.prog) (cmp := cmp) h ho h1 hl h2 h3 h4)
  have hr : RotOk Tryz.prog 125 enc 2 z rest s q N f cmp := fun M a m b Q h1 h2 h3 h4 h5 => HC125 (rot_ok (u3 := 3) hw h1 hl h2 h3 h4 h5)
  have hi : InsOk Tryz.prog 122 enc 2 z lt rest s q N f cmp := fun M a b Q h1 h2 h3 h4 => HC122 (by rw [← h1]; exact ins_ok (z := z) hO h ho hc (by omega) (by omega) h2 h4)
  have hs : ∀ d, SymOk Tryz.prog 123 enc 2 z lt rest s q N f cmp d := sym_all fun M a m b Q ih h1 h2 h3 h4 h5 h6 h7 => HC123 (sym_step (u3 := 3) hO h ho hc hr ih h1 hl h2 h3 h4 h5 h6 h7)
  refine HC112 ?_
  show HC Tryz.prog 119 [.view q 0 2 N f, .lit (.int .i64 (N : Int)), cmp] (Lay enc rest s q M) _
  refine HC119 (stb_ok hi hs hN hl fun M' k1 k2 => hQ M' k1 ?_)
  have : M'.length = N := by rw [k1.length_eq, hN]
  rw [← this] at k2
  exact k2.pairwise
theorem sort38 (z : α) (hO : Ordr lt) (h : ∀ x, (enc x).length = 2) (ho : ∀ x, ∀ y ∈ enc x, hone y = true) (hc : CmpOk Tryz.prog cmp enc lt rest s q) {M : List α} {Q : HV → HS → Prop} (hl : M.length < 1099511627776)
    (hQ : ∀ M', M'.Perm M → M'.Pairwise (fun x y => lt y x = false) → Q (.tup []) (Lay enc rest s q M')) :
    HC Tryz.prog 101 [.view q 0 2 M.length f, cmp] (Lay enc rest s q M) Q := by
  obtain ⟨N, hN⟩ : ∃ N, M.length = N := ⟨_, rfl⟩
  rw [hN] at hl ⊢
  have hw : SwrOk Tryz.prog 126 enc 2 z rest s q N f cmp := fun M p r n Q h1 h2 h3 h4 => HC126 (swr_ok (P := Tryz.prog) (cmp := cmp) h ho h1 hl h2 h3 h4)
  have hr : RotOk Tryz.prog 124 enc 2 z rest s q N f cmp := fun M a m b Q h1 h2 h3 h4 h5 => HC124 (rot_ok (u3 := 3) hw h1 hl h2 h3 h4 h5)
  have hi : InsOk Tryz.prog 120 enc 2 z lt rest s q N f cmp := fun M a b Q h1 h2 h3 h4 => HC120 (by rw [← h1]; exact ins_ok (z := z) hO h ho hc (by omega) (by omega) h2 h4)
  have hs : ∀ d, SymOk Tryz.prog 121 enc 2 z lt rest s q N f cmp d := sym_all fun M a m b Q ih h1 h2 h3 h4 h5 h6 h7 => HC121 (sym_step (u3 := 3) hO h ho hc hr ih h1 hl h2 h3 h4 h5 h6 h7)
  refine HC101 ?_
  show HC Tryz.prog 115 [.view q 0 2 N f, .lit (.int .i64 (N : Int)), cmp] (Lay enc rest s q M) _
  refine HC115 (stb_ok hi hs hN hl fun M' k1 k2 => hQ M' k1 ?_)
  have : M'.length = N := by rw [k1.length_eq, hN]
  rw [← this] at k2
  exact k2.pairwise
end
theorem cmp40 (a b : By) (s : HS) : HC Tryz.prog 103 [strV a, strV b] s (fun v s' => s' = s ∧ ∃ n : Int, v = .lit (.int .i64 n) ∧ (n < 0 ↔ bl_ a b = true)) := by
  have hn : ∀ (k : By) (t : HS), HC Tryz.prog 116 [strV k] t (fun v t' => v = .lit (.bool false) ∧ t' = t) := fun k t => by
    refine HC116 ?_
    simp [c116, strV, vCmp, vBin, bindO]
  refine HC103 ?_
  unfold c103
  refine (hn a s).mono ?_
  rintro v t ⟨rfl, rfl⟩
  refine (hn b t).mono ?_
  rintro v t1 ⟨rfl, rfl⟩
  simp only [hcond, strV, vBin, bindO, str_lt]
  cases hab : bl_ a b with
  | true => exact ⟨trivial, -1, rfl, by simp⟩
  | false =>
    simp only [Bool.false_or, toL]
    cases hE : (a == b) with
    | false => exact ⟨trivial, 1, rfl, by simp⟩
    | true => exact ⟨trivial, 0, rfl, by simp⟩
end Go.Proofs.YtkcgokkgefgcjaaGreatDoor.AS
end
section
namespace Go.Proofs.YtkcgokkgefgcjaaGreatDoor.AS
open Go.Proofs.YtkcgokkgefgcjaaGreatDoor.H Go.Proofs.YtkcgokkgefgcjaaGreatDoor.G0 Go.Proofs.YtkcgokkgefgcjaaGreatDoor.G1
set_option linter.unusedVariables false
set_option linter.unusedSimpArgs false
set_option maxRecDepth 100000
/-- A row: nil, or an object. -/
def RowV (s : HS) (sz : Nat) (A : HV) (n : Nat) (cs : List HV) : Prop := (A = nilV ∧ cs = [] ∧ n = 0) ∨ ∃ q f, A = .view q 0 sz n f ∧ s q = some (.cells cs) ∧ cs.length = n * sz
theorem RowV.le {s t : HS} {sz : Nat} {A : HV} {n : Nat} {cs : List HV} (h : RowV s sz A n cs) (hle : HS.le s t) : RowV t sz A n cs := by
  rcases h with h | ⟨q, f, h1, h2, h3⟩
  · exact .inl h
  · exact .inr ⟨q, f, h1, hle _ _ h2, h3⟩
theorem RowV.lc {s : HS} {sz : Nat} {A : HV} {n : Nat} {cs : List HV} (h : RowV s sz A n cs) : lcells s sz A = some cs := by
  rcases h with ⟨rfl, rfl, rfl⟩ | ⟨q, f, rfl, h2, h3⟩
  · rfl
  · simp [lcells, h2, h3, List.take_of_length_le]
theorem RowV.llen {s : HS} {sz : Nat} {A : HV} {n : Nat} {cs : List HV} (h : RowV s sz A n cs) : llen A = n := by
  rcases h with ⟨rfl, rfl, rfl⟩ | ⟨q, f, rfl, h2, h3⟩ <;> rfl
theorem RowV.cl {s : HS} {sz : Nat} {A : HV} {n : Nat} {cs : List HV} (h : RowV s sz A n cs) : cs.length = n * sz := by
  rcases h with ⟨rfl, rfl, rfl⟩ | ⟨q, f, rfl, h2, h3⟩
  · simp
  · exact h3
theorem RowV.len {s : HS} {sz : Nat} {A : HV} {n : Nat} {cs : List HV} (h : RowV s sz A n cs) (e : Nat) (t : HS) : vLenT (some (.slice e)) t A = some (.lit (.int .i64 n)) := by
  rcases h with ⟨rfl, rfl, rfl⟩ | ⟨q, f, rfl, h2, h3⟩ <;> rfl
theorem acc0_row {b t : HS} {sz : Nat} {A : HV} {n : Nat} {cs : List HV} (h : Acc0 b t sz A n cs) : RowV t sz A n cs := by
  rcases h with (h | ⟨q, f, h1, rfl, h3, h4, h5⟩) | ⟨rfl, rfl, q, h1, rfl, h3⟩
  · obtain ⟨h1, h2, h3⟩ := h; exact .inl ⟨h1, h2, h3⟩
  · exact .inr ⟨q, f, rfl, h3, h4⟩
  · exact .inr ⟨q, true, rfl, h3, by simp⟩
theorem RowV.at_ {α : Type} {enc : α → List HV} {sz : Nat} (he : ∀ x, (enc x).length = sz) (z : α) {s : HS} {A : HV} {l : List α} (h : RowV s sz A l.length (rows enc l)) {i : Nat} (hi : i < l.length) :
    ∃ q, vIdx sz A (.lit (.int .i64 (i : Int))) = some (.ptr q (i * sz)) ∧ ∀ t, HS.le s t → vLoad t (.ptr q (i * sz)) sz true = some (.agg (enc (l.getD i z))) ∧ ∀ j, j < sz → ∀ m, vLoad t (.ptr q (i * sz + j)) m false = (enc (l.getD i z))[j]? := by
  rcases h with ⟨rfl, h0, h1⟩ | ⟨q, f, rfl, h3, h4⟩
  · omega
  · refine ⟨q, by rw [idx_view .i64 hi, Nat.zero_add], fun t ht => ?_⟩
    have h5 : t q = some (.cells (rows enc l ++ [])) := by rw [List.append_nil]; exact ht _ _ h3
    exact ⟨load_rows he z h5 hi, fun j hj m => load_rows1 he z h5 hi hj⟩
theorem hbox_intro {s : HS} {v : HV} {cs : List HV} {K : HV → HS → Prop} (hc : hcells v = some cs) (h : ∀ id, s id = none → K (.ptr id 0) (s.set id (.cells cs))) : hBox s v K := by
  unfold hBox
  rw [hc]
  exact h
theorem name44 (m : Mem) (u : HS) : HC Tryz.prog 97 [.agg (memC m)] u (fun v u' => u' = u ∧ v = strV m.id) := by
  refine HC.weaken (HC97 ?_)
  simp only [c97, hBox, hcells, bindO, vField]
  intro id hid
  simp only [Nat.zero_add]
  rw [load_cell 0 1 (set_at u id _)]
  exact ⟨u, le_set_new _ (le_refl' u) hid, rfl, rfl⟩
theorem plain44 : plainFn Tryz.prog 97 = true := by unfold plainFn; rw [Tryz.func97]; rfl
theorem cmp54 {s : HS} {rest : List HV} {q nb : Nat} (hnb : s nb = some (.cells [.func (.func 97) []])) (hq : nb ≠ q) : CmpOk Tryz.prog (.func (.func 113) [.ptr nb 0]) memC ltM rest s q := by
  intro M x y K hK
  have hp : plainFn Tryz.prog 113 = true := by unfold plainFn; rw [Tryz.func113]; rfl
  have hp4 := plain44
  have hL : Lay memC rest s q M nb = some (.cells [.func (.func 97) []]) := by unfold Lay; rw [set_ne _ _ hq]; exact hnb
  generalize Lay memC rest s q M = t at *
  simp only [hcall, hite_eq, hp, if_true, List.cons_append, List.nil_append]
  refine HC.weaken (HC113 ?_)
  simp only [c113, hBox, hcells]
  intro i1 h1
  have n1 := ne_new hL h1
  have e1 := set_at t i1 (.cells (memC x))
  have eL : (t.set i1 (.cells (memC x))) nb = some (.cells [.func (.func 97) []]) := by rw [set_ne _ _ n1]; exact hL
  have hle := le_set_new (.cells (memC x)) (le_refl' t) h1
  generalize t.set i1 (.cells (memC x)) = t1 at *
  intro i2 h2
  have e2 := set_at t1 i2 (.cells (memC y))
  have e3 : (t1.set i2 (.cells (memC y))) i1 = some (.cells (memC x)) := by rw [set_ne _ _ (ne_new e1 h2)]; exact e1
  have eL2 : (t1.set i2 (.cells (memC y))) nb = some (.cells [.func (.func 97) []]) := by rw [set_ne _ _ (ne_new eL h2)]; exact eL
  have hle2 := le_set_new (.cells (memC y)) hle h2
  generalize t1.set i2 (.cells (memC y)) = t2 at *
  have l2 := load_all (memC_len y) e2
  have lL : vLoad t2 (.ptr nb 0) 1 false = some (.func (.func 97) []) := load_cell 0 1 eL2
  rw [lL, load_all (memC_len x) e3, l2]
  simp only [bindO, hcall, hite_eq, hp4, if_true, List.append_nil]
  refine (name44 x t2).mono ?_
  rintro v t3 ⟨rfl, rfl⟩
  refine ⟨l2, lL, (name44 y t3).mono ?_⟩
  rintro v t4 ⟨rfl, rfl⟩
  refine (cmp40 x.id y.id t4).mono ?_
  rintro v t5 ⟨rfl, n, rfl, hn⟩
  exact ⟨t, hle2, hK n hn⟩
theorem clone52 {s : HS} {A : HV} {n : Nat} {cs : List HV} (h : RowV s 2 A n cs) (hn : n ≤ 1000000000) : HC Tryz.prog 111 [A] s (fun v t => Acc0 s t 2 v n cs ∧ HS.le s t) := by
  refine HC111 ?_
  unfold c111
  have hcl := h.cl
  rcases h with ⟨rfl, rfl, rfl⟩ | ⟨q, f, rfl, h2, h3⟩
  · exact ⟨.inl (Acc.nil _ _ _), le_refl' s⟩
  · rw [show vCmp (Tryz.prog.underlying 102) .eql (.view q 0 2 n f) (.lit (.slice none 0 0)) = some (.lit (.bool false)) from rfl]
    simp only [bindO, hcond]
    refine hBS0 fun id hid => ?_
    have hr : RowV s 2 (.view q 0 2 n f) n cs := .inr ⟨q, f, rfl, h2, h3⟩
    exact app_empty (b := s) (le_set_new _ (le_refl' s) hid) hid (set_at _ _ _) (hr.le (le_set_new _ (le_refl' s) hid)).lc hr.llen hcl ⟨by omega, by omega⟩ fun A' t' k1 k2 => ⟨k1, k2⟩
theorem insNil60 (cmp : HV) (s : HS) : HC Tryz.prog 122 [nilV, .lit (.int .i64 0), .lit (.int .i64 0), cmp] s (fun v t => t = s) := by
  refine HC122 ?_
  unfold c122
  rw [show vBin .add (.lit (.int .i64 0)) (.lit (.int .i64 1)) = some (.lit (.int .i64 ((0 + 1 : Nat) : Int))) from add_i (a := 0) (b := 1) (by omega)]
  simp only [bindO]
  refine HLoop.ghost (σ := Unit) (fun _ => [.lit (.int .i64 ((0 + 1 : Nat) : Int))]) (fun _ t => t = s) (fun _ => 0) () rfl rfl ?_
  rintro _ t K rfl hK
  rfl
theorem sortNil53 (cmp : HV) (s : HS) : HC Tryz.prog 112 [nilV, cmp] s (fun v t => t = s) := by
  refine HC112 ?_
  show HC Tryz.prog 119 [nilV, .lit (.int .i64 0), cmp] s _
  refine HC119 ?_
  refine HLoop.ghost (σ := Unit) (fun _ => [.lit (.int .i64 0), .lit (.int .i64 20)]) (fun _ t => t = s) (fun _ => 0) () rfl rfl ?_
  rintro _ t K rfl hK
  show HC Tryz.prog 122 [nilV, .lit (.int .i64 0), .lit (.int .i64 0), cmp] t _
  refine (insNil60 cmp t).mono ?_
  rintro v t1 rfl
  refine HLoop.ghost (σ := Unit) (fun _ => [.lit (.int .i64 20)]) (fun _ t => t = t1) (fun _ => 0) () rfl rfl ?_
  rintro _ t K rfl hK
  rfl
/-- An own row sorted: the state is the same but for it. -/
theorem sortRow53 {b t : HS} {cmp A : HV} {l : List Mem} (hA : Acc0 b t 2 A l.length (rows memC l)) (hb : HS.le b t) (hc : ∀ q, b q = none → CmpOk Tryz.prog cmp memC ltM [] t q) (hl : l.length < 1099511627776) :
    HC Tryz.prog 112 [A, cmp] t (fun v t' => ∃ l', l'.Perm l ∧ l'.Pairwise (fun x y => ltM y x = false) ∧ Acc0 b t' 2 A l'.length (rows memC l') ∧ HS.le b t') := by
  have own : ∀ q f, b q = none → A = .view q 0 2 l.length f → t q = some (.cells (rows memC l)) → HC Tryz.prog 112 [A, cmp] t (fun v t' => ∃ l', l'.Perm l ∧ l'.Pairwise (fun x y => ltM y x = false) ∧ Acc0 b t' 2 A l'.length (rows memC l') ∧ HS.le b t') := by
    rintro q f h1 rfl h2
    have e : Lay memC [] t q l = t := lay_self (by rw [List.append_nil]; exact h2)
    have := sort53 (f := f) (Q := fun v t' => ∃ l', l'.Perm l ∧ l'.Pairwise (fun x y => ltM y x = false) ∧ Acc0 b t' 2 (.view q 0 2 l.length f) l'.length (rows memC l') ∧ HS.le b t') m0 (ordr_name Mem.id) memC_len memC_one (hc q h1) (M := l) hl fun l' p1 p2 => ?_
    · rw [e] at this; exact this
    · refine ⟨l', p1, p2, ?_, ?_⟩
      · have hlen : l'.length = l.length := p1.length_eq
        rw [hlen]
        have at_ : Lay memC [] t q l' q = some (.cells (rows memC l')) := by rw [lay_at, List.append_nil]
        by_cases h0 : l.length = 0
        · rcases hA with (⟨h, -⟩ | ⟨q', f', g1, g2, g3, g4, g5⟩) | ⟨g1, g2, q', g3, g4, g5⟩
          · cases h
          · exact absurd h0 g5
          · have hf : f = true := by injection g4
            obtain rfl : l' = [] := List.eq_nil_of_length_eq_zero (by omega)
            exact .inr ⟨g1, rfl, q, h1, by rw [h0, hf], at_⟩
        · exact .inl (.inr ⟨q, f, h1, rfl, at_, by rw [rows_len memC_len, hlen], h0⟩)
      · exact le_set_free _ hb h1
  rcases hA with (⟨rfl, h2, h3⟩ | ⟨q, f, h1, h2, h3, h4, h5⟩) | ⟨h1, h2, q, h3, h4, h5⟩
  · obtain rfl : l = [] := List.eq_nil_of_length_eq_zero h3
    refine (sortNil53 cmp t).mono ?_
    rintro v t' rfl
    exact ⟨[], List.Perm.refl _, List.Pairwise.nil, .inl (Acc.nil _ _ _), hb⟩
  · exact own q f h1 h2 h3
  · obtain rfl : l = [] := List.eq_nil_of_length_eq_zero h1
    exact own q true h3 h4 h5
theorem sorted43 {s : HS} {A : HV} {l : List Mem} (h : RowV s 2 A l.length (rows memC l)) (hl : l.length ≤ 1000000) :
    HC Tryz.prog 96 [A, .func (.func 97) []] s (fun v t => HS.le s t ∧ ((¬ (l.map Mem.id).Nodup ∧ v = .tup [nilV, .lit (.bool false)]) ∨ ((l.map Mem.id).Nodup ∧ ∃ l', l'.Perm l ∧ l'.Pairwise (fun x y => ltM x y = true) ∧ ∃ A', v = .tup [A', .lit (.bool true)] ∧ Acc0 s t 2 A' l'.length (rows memC l')))) := by
  refine HC96 ?_
  unfold c96
  refine hbox_intro (hc_func _ _) fun nb hnb => ?_
  have hle1 := le_set_new (.cells [.func (.func 97) []]) (le_refl' s) hnb
  have en := set_at s nb (.cells [.func (.func 97) []])
  generalize s.set nb (.cells [.func (.func 97) []]) = s1 at *
  refine (clone52 (h.le hle1) (by omega)).mono ?_
  rintro A1 s2 ⟨hA1, hle2⟩
  have en2 := hle2 _ _ en
  refine (sortRow53 hA1 hle2 (fun q hq => cmp54 en2 (by rintro rfl; rw [en] at hq; cases hq)) (by omega)).mono ?_
  rintro v s3 ⟨l', hp, hso, hA', hle3⟩
  have en3 := hle3 _ _ en
  have hlen : l'.length = l.length := hp.length_eq
  have hnd : (l.map Mem.id).Nodup ↔ (l'.map Mem.id).Nodup := (hp.map _).nodup_iff.symm
  have hrow := acc0_row hA'
  refine HLoop.ghost (σ := Nat) (fun i => [.lit (.int .i64 (i : Int))]) (fun i t => 1 ≤ i ∧ t = s3 ∧ ∀ j, j + 1 < i → j + 1 < l'.length → (l'.getD (j + 1) m0).id ≠ (l'.getD j m0).id) (fun i => l'.length + 1 - i) 1 rfl ⟨Nat.le_refl _, rfl, fun j h1 h2 => by omega⟩ ?_
  rintro i t K ⟨h1, rfl, h3⟩ hK
  have hvl : vLenT (Tryz.prog.underlying 102) t A1 = some (.lit (.int .i64 (l'.length : Int))) := hrow.len _ t
  simp only [List.headD_cons, hvl, bindO, lss_i]
  by_cases hi : i < l'.length
  · obtain ⟨q, x1, y1⟩ := hrow.at_ memC_len m0 hi
    obtain ⟨q2, x2, y2⟩ := hrow.at_ memC_len m0 (show i - 1 < l'.length by omega)
    have lL : vLoad t (.ptr nb 0) 1 false = some (.func (.func 97) []) := load_cell 0 1 en3
    have z2 := (y2 t (le_refl' t)).1
    simp only [hi, decide_true, hcond, lL, x1, (y1 t (le_refl' t)).1]
    rw [wlit1, sub_i h1 (by omega)]
    simp only [x2, z2, hcall, hite_eq, plain44, if_true, List.append_nil]
    refine (name44 _ t).mono ?_
    rintro v t1 ⟨rfl, rfl⟩
    refine ⟨z2, lL, (name44 _ t1).mono ?_⟩
    rintro v t2 ⟨rfl, rfl⟩
    simp only [vCmp, vBin, strV, toL]
    cases he : ((l'.getD i m0).id == (l'.getD (i - 1) m0).id) with
    | true =>
      refine ⟨HS.le.trans hle1 hle3, .inl ⟨?_, trivial⟩⟩
      rw [hnd]
      intro hn
      have hij := (List.pairwise_iff_getElem.1 hn) (i - 1) i (by simp; omega) (by simpa using hi) (by omega)
      simp only [List.getElem_map] at hij
      rw [getD_get _ _ hi, getD_get _ _ (show i - 1 < l'.length by omega)] at he
      exact hij (eq_of_beq he).symm
    | false =>
      simp only [if_true]
      rw [show IntKind.i64.wrap ((i : Int) + ((1 : Nat) : Int)) = ((i + 1 : Nat) : Int) from wrap_add1 (by omega)]
      refine hK (i + 1) _ _ rfl ⟨by omega, rfl, fun j k1 k2 => ?_⟩ (by show l'.length + 1 - (i + 1) < l'.length + 1 - i; omega)
      by_cases hj : j + 1 < i
      · exact h3 j hj k2
      · obtain rfl : i = j + 1 := by omega
        intro e
        rw [show j + 1 - 1 = j by omega, e] at he
        simp at he
  · simp only [hi, decide_false, hcond]
    have hadj : ∀ j, j + 1 < l'.length → bl_ (l'.getD j m0).id (l'.getD (j + 1) m0).id = true := fun j hj => by
      have h5 := List.pairwise_iff_getElem.1 hso j (j + 1) (by omega) hj (by omega)
      have h6 := h3 j (by omega) hj
      rw [getD_get _ _ hj, getD_get _ _ (show j < l'.length by omega)] at h6 ⊢
      rcases bl_tri _ _ h5 with e | e
      · exact absurd e h6
      · exact e
    have hstr : l'.Pairwise (fun x y => ltM x y = true) := by
      rw [List.pairwise_iff_getElem]
      intro a b ha hb hab
      obtain ⟨d, rfl⟩ : ∃ d, b = a + d + 1 := ⟨b - a - 1, by omega⟩
      clear hab
      induction d with
      | zero =>
        have := hadj a (by omega)
        rwa [getD_get _ _ ha, getD_get _ _ hb] at this
      | succ d ih =>
        have h7 := ih (by omega)
        have h8 := hadj (a + d + 1) (by omega)
        rw [getD_get _ _ (show a + d + 1 < l'.length by omega), getD_get _ _ (show a + d + 1 + 1 < l'.length by omega)] at h8
        exact bl_trans _ _ _ h7 h8
    refine ⟨HS.le.trans hle1 hle3, .inr ⟨?_, l', hp, hstr, A1, rfl, ?_⟩⟩
    · rw [hnd]
      unfold List.Nodup
      rw [List.pairwise_map]
      exact hstr.imp fun {x y} hxy e => by
        have hxy' : bl_ x.id y.id = true := hxy
        rw [e, bl_irrefl] at hxy'
        cases hxy'
    · rcases hA' with hA' | ⟨g1, g2, q, g3, g4⟩
      · exact .inl (hA'.base hle1)
      · exact .inr ⟨g1, g2, q, none_of_le hle1 g3, g4⟩
theorem name46 (m : Top) (u : HS) : HC Tryz.prog 99 [.agg (topC m)] u (fun v u' => u' = u ∧ v = strV m.name) := by
  refine HC.weaken (HC99 ?_)
  simp only [c99, hBox, hcells, bindO, vField]
  intro id hid
  simp only [Nat.zero_add]
  rw [load_cell 0 1 (set_at u id _)]
  exact ⟨u, le_set_new _ (le_refl' u) hid, rfl, rfl⟩
theorem plain46 : plainFn Tryz.prog 99 = true := by unfold plainFn; rw [Tryz.func99]; rfl
theorem cmp55 {s : HS} {rest : List HV} {q nb : Nat} (hnb : s nb = some (.cells [.func (.func 99) []])) (hq : nb ≠ q) : CmpOk Tryz.prog (.func (.func 114) [.ptr nb 0]) topC ltT rest s q := by
  intro M x y K hK
  have hp : plainFn Tryz.prog 114 = true := by unfold plainFn; rw [Tryz.func114]; rfl
  have hp4 := plain46
  have hL : Lay topC rest s q M nb = some (.cells [.func (.func 99) []]) := by unfold Lay; rw [set_ne _ _ hq]; exact hnb
  generalize Lay topC rest s q M = t at *
  simp only [hcall, hite_eq, hp, if_true, List.cons_append, List.nil_append]
  refine HC.weaken (HC114 ?_)
  simp only [c114, hBox, hcells]
  intro i1 h1
  have n1 := ne_new hL h1
  have e1 := set_at t i1 (.cells (topC x))
  have eL : (t.set i1 (.cells (topC x))) nb = some (.cells [.func (.func 99) []]) := by rw [set_ne _ _ n1]; exact hL
  have hle := le_set_new (.cells (topC x)) (le_refl' t) h1
  generalize t.set i1 (.cells (topC x)) = t1 at *
  intro i2 h2
  have e2 := set_at t1 i2 (.cells (topC y))
  have e3 : (t1.set i2 (.cells (topC y))) i1 = some (.cells (topC x)) := by rw [set_ne _ _ (ne_new e1 h2)]; exact e1
  have eL2 : (t1.set i2 (.cells (topC y))) nb = some (.cells [.func (.func 99) []]) := by rw [set_ne _ _ (ne_new eL h2)]; exact eL
  have hle2 := le_set_new (.cells (topC y)) hle h2
  generalize t1.set i2 (.cells (topC y)) = t2 at *
  have l2 := load_all (topC_len y) e2
  have lL : vLoad t2 (.ptr nb 0) 1 false = some (.func (.func 99) []) := load_cell 0 1 eL2
  rw [lL, load_all (topC_len x) e3, l2]
  simp only [bindO, hcall, hite_eq, hp4, if_true, List.append_nil]
  refine (name46 x t2).mono ?_
  rintro v t3 ⟨rfl, rfl⟩
  refine ⟨l2, lL, (name46 y t3).mono ?_⟩
  rintro v t4 ⟨rfl, rfl⟩
  refine (cmp40 x.name y.name t4).mono ?_
  rintro v t5 ⟨rfl, n, rfl, hn⟩
  exact ⟨t, hle2, hK n hn⟩
theorem clone37 {s : HS} {A : HV} {n : Nat} {cs : List HV} (h : RowV s 2 A n cs) (hn : n ≤ 1000000000) : HC Tryz.prog 58 [A] s (fun v t => Acc0 s t 2 v n cs ∧ HS.le s t) := by
  refine HC58 ?_
  unfold c58
  have hcl := h.cl
  rcases h with ⟨rfl, rfl, rfl⟩ | ⟨q, f, rfl, h2, h3⟩
  · exact ⟨.inl (Acc.nil _ _ _), le_refl' s⟩
  · rw [show vCmp (Tryz.prog.underlying 40) .eql (.view q 0 2 n f) (.lit (.slice none 0 0)) = some (.lit (.bool false)) from rfl]
    simp only [bindO, hcond]
    refine hBS0 fun id hid => ?_
    have hr : RowV s 2 (.view q 0 2 n f) n cs := .inr ⟨q, f, rfl, h2, h3⟩
    exact app_empty (b := s) (le_set_new _ (le_refl' s) hid) hid (set_at _ _ _) (hr.le (le_set_new _ (le_refl' s) hid)).lc hr.llen hcl ⟨by omega, by omega⟩ fun A' t' k1 k2 => ⟨k1, k2⟩
theorem insNil56 (cmp : HV) (s : HS) : HC Tryz.prog 120 [nilV, .lit (.int .i64 0), .lit (.int .i64 0), cmp] s (fun v t => t = s) := by
  refine HC120 ?_
  unfold c120
  rw [show vBin .add (.lit (.int .i64 0)) (.lit (.int .i64 1)) = some (.lit (.int .i64 ((0 + 1 : Nat) : Int))) from add_i (a := 0) (b := 1) (by omega)]
  simp only [bindO]
  refine HLoop.ghost (σ := Unit) (fun _ => [.lit (.int .i64 ((0 + 1 : Nat) : Int))]) (fun _ t => t = s) (fun _ => 0) () rfl rfl ?_
  rintro _ t K rfl hK
  rfl
theorem sortNil38 (cmp : HV) (s : HS) : HC Tryz.prog 101 [nilV, cmp] s (fun v t => t = s) := by
  refine HC101 ?_
  show HC Tryz.prog 115 [nilV, .lit (.int .i64 0), cmp] s _
  refine HC115 ?_
  refine HLoop.ghost (σ := Unit) (fun _ => [.lit (.int .i64 0), .lit (.int .i64 20)]) (fun _ t => t = s) (fun _ => 0) () rfl rfl ?_
  rintro _ t K rfl hK
  show HC Tryz.prog 120 [nilV, .lit (.int .i64 0), .lit (.int .i64 0), cmp] t _
  refine (insNil56 cmp t).mono ?_
  rintro v t1 rfl
  refine HLoop.ghost (σ := Unit) (fun _ => [.lit (.int .i64 20)]) (fun _ t => t = t1) (fun _ => 0) () rfl rfl ?_
  rintro _ t K rfl hK
  rfl
/-- An own row sorted: the state is the same but for it. -/
theorem sortRow38 {b t : HS} {cmp A : HV} {l : List Top} (hA : Acc0 b t 2 A l.length (rows topC l)) (hb : HS.le b t) (hc : ∀ q, b q = none → CmpOk Tryz.prog cmp topC ltT [] t q) (hl : l.length < 1099511627776) :
    HC Tryz.prog 101 [A, cmp] t (fun v t' => ∃ l', l'.Perm l ∧ l'.Pairwise (fun x y => ltT y x = false) ∧ Acc0 b t' 2 A l'.length (rows topC l') ∧ HS.le b t') := by
  have own : ∀ q f, b q = none → A = .view q 0 2 l.length f → t q = some (.cells (rows topC l)) → HC Tryz.prog 101 [A, cmp] t (fun v t' => ∃ l', l'.Perm l ∧ l'.Pairwise (fun x y => ltT y x = false) ∧ Acc0 b t' 2 A l'.length (rows topC l') ∧ HS.le b t') := by
    rintro q f h1 rfl h2
    have e : Lay topC [] t q l = t := lay_self (by rw [List.append_nil]; exact h2)
    have := sort38 (f := f) (Q := fun v t' => ∃ l', l'.Perm l ∧ l'.Pairwise (fun x y => ltT y x = false) ∧ Acc0 b t' 2 (.view q 0 2 l.length f) l'.length (rows topC l') ∧ HS.le b t') t0 (ordr_name Top.name) topC_len topC_one (hc q h1) (M := l) hl fun l' p1 p2 => ?_
    · rw [e] at this; exact this
    · refine ⟨l', p1, p2, ?_, ?_⟩
      · have hlen : l'.length = l.length := p1.length_eq
        rw [hlen]
        have at_ : Lay topC [] t q l' q = some (.cells (rows topC l')) := by rw [lay_at, List.append_nil]
        by_cases h0 : l.length = 0
        · rcases hA with (⟨h, -⟩ | ⟨q', f', g1, g2, g3, g4, g5⟩) | ⟨g1, g2, q', g3, g4, g5⟩
          · cases h
          · exact absurd h0 g5
          · have hf : f = true := by injection g4
            obtain rfl : l' = [] := List.eq_nil_of_length_eq_zero (by omega)
            exact .inr ⟨g1, rfl, q, h1, by rw [h0, hf], at_⟩
        · exact .inl (.inr ⟨q, f, h1, rfl, at_, by rw [rows_len topC_len, hlen], h0⟩)
      · exact le_set_free _ hb h1
  rcases hA with (⟨rfl, h2, h3⟩ | ⟨q, f, h1, h2, h3, h4, h5⟩) | ⟨h1, h2, q, h3, h4, h5⟩
  · obtain rfl : l = [] := List.eq_nil_of_length_eq_zero h3
    refine (sortNil38 cmp t).mono ?_
    rintro v t' rfl
    exact ⟨[], List.Perm.refl _, List.Pairwise.nil, .inl (Acc.nil _ _ _), hb⟩
  · exact own q f h1 h2 h3
  · obtain rfl : l = [] := List.eq_nil_of_length_eq_zero h1
    exact own q true h3 h4 h5
theorem sorted45 {s : HS} {A : HV} {l : List Top} (h : RowV s 2 A l.length (rows topC l)) (hl : l.length ≤ 1000000) :
    HC Tryz.prog 98 [A, .func (.func 99) []] s (fun v t => HS.le s t ∧ ((¬ (l.map Top.name).Nodup ∧ v = .tup [nilV, .lit (.bool false)]) ∨ ((l.map Top.name).Nodup ∧ ∃ l', l'.Perm l ∧ l'.Pairwise (fun x y => ltT x y = true) ∧ ∃ A', v = .tup [A', .lit (.bool true)] ∧ Acc0 s t 2 A' l'.length (rows topC l')))) := by
  refine HC98 ?_
  unfold c98
  refine hbox_intro (hc_func _ _) fun nb hnb => ?_
  have hle1 := le_set_new (.cells [.func (.func 99) []]) (le_refl' s) hnb
  have en := set_at s nb (.cells [.func (.func 99) []])
  generalize s.set nb (.cells [.func (.func 99) []]) = s1 at *
  refine (clone37 (h.le hle1) (by omega)).mono ?_
  rintro A1 s2 ⟨hA1, hle2⟩
  have en2 := hle2 _ _ en
  refine (sortRow38 hA1 hle2 (fun q hq => cmp55 en2 (by rintro rfl; rw [en] at hq; cases hq)) (by omega)).mono ?_
  rintro v s3 ⟨l', hp, hso, hA', hle3⟩
  have en3 := hle3 _ _ en
  have hlen : l'.length = l.length := hp.length_eq
  have hnd : (l.map Top.name).Nodup ↔ (l'.map Top.name).Nodup := (hp.map _).nodup_iff.symm
  have hrow := acc0_row hA'
  refine HLoop.ghost (σ := Nat) (fun i => [.lit (.int .i64 (i : Int))]) (fun i t => 1 ≤ i ∧ t = s3 ∧ ∀ j, j + 1 < i → j + 1 < l'.length → (l'.getD (j + 1) t0).name ≠ (l'.getD j t0).name) (fun i => l'.length + 1 - i) 1 rfl ⟨Nat.le_refl _, rfl, fun j h1 h2 => by omega⟩ ?_
  rintro i t K ⟨h1, rfl, h3⟩ hK
  have hvl : vLenT (Tryz.prog.underlying 40) t A1 = some (.lit (.int .i64 (l'.length : Int))) := hrow.len _ t
  simp only [List.headD_cons, hvl, bindO, lss_i]
  by_cases hi : i < l'.length
  · obtain ⟨q, x1, y1⟩ := hrow.at_ topC_len t0 hi
    obtain ⟨q2, x2, y2⟩ := hrow.at_ topC_len t0 (show i - 1 < l'.length by omega)
    have lL : vLoad t (.ptr nb 0) 1 false = some (.func (.func 99) []) := load_cell 0 1 en3
    have z2 := (y2 t (le_refl' t)).1
    simp only [hi, decide_true, hcond, lL, x1, (y1 t (le_refl' t)).1]
    rw [wlit1, sub_i h1 (by omega)]
    simp only [x2, z2, hcall, hite_eq, plain46, if_true, List.append_nil]
    refine (name46 _ t).mono ?_
    rintro v t1 ⟨rfl, rfl⟩
    refine ⟨z2, lL, (name46 _ t1).mono ?_⟩
    rintro v t2 ⟨rfl, rfl⟩
    simp only [vCmp, vBin, strV, toL]
    cases he : ((l'.getD i t0).name == (l'.getD (i - 1) t0).name) with
    | true =>
      refine ⟨HS.le.trans hle1 hle3, .inl ⟨?_, trivial⟩⟩
      rw [hnd]
      intro hn
      have hij := (List.pairwise_iff_getElem.1 hn) (i - 1) i (by simp; omega) (by simpa using hi) (by omega)
      simp only [List.getElem_map] at hij
      rw [getD_get _ _ hi, getD_get _ _ (show i - 1 < l'.length by omega)] at he
      exact hij (eq_of_beq he).symm
    | false =>
      simp only [if_true]
      rw [show IntKind.i64.wrap ((i : Int) + ((1 : Nat) : Int)) = ((i + 1 : Nat) : Int) from wrap_add1 (by omega)]
      refine hK (i + 1) _ _ rfl ⟨by omega, rfl, fun j k1 k2 => ?_⟩ (by show l'.length + 1 - (i + 1) < l'.length + 1 - i; omega)
      by_cases hj : j + 1 < i
      · exact h3 j hj k2
      · obtain rfl : i = j + 1 := by omega
        intro e
        rw [show j + 1 - 1 = j by omega, e] at he
        simp at he
  · simp only [hi, decide_false, hcond]
    have hadj : ∀ j, j + 1 < l'.length → bl_ (l'.getD j t0).name (l'.getD (j + 1) t0).name = true := fun j hj => by
      have h5 := List.pairwise_iff_getElem.1 hso j (j + 1) (by omega) hj (by omega)
      have h6 := h3 j (by omega) hj
      rw [getD_get _ _ hj, getD_get _ _ (show j < l'.length by omega)] at h6 ⊢
      rcases bl_tri _ _ h5 with e | e
      · exact absurd e h6
      · exact e
    have hstr : l'.Pairwise (fun x y => ltT x y = true) := by
      rw [List.pairwise_iff_getElem]
      intro a b ha hb hab
      obtain ⟨d, rfl⟩ : ∃ d, b = a + d + 1 := ⟨b - a - 1, by omega⟩
      clear hab
      induction d with
      | zero =>
        have := hadj a (by omega)
        rwa [getD_get _ _ ha, getD_get _ _ hb] at this
      | succ d ih =>
        have h7 := ih (by omega)
        have h8 := hadj (a + d + 1) (by omega)
        rw [getD_get _ _ (show a + d + 1 < l'.length by omega), getD_get _ _ (show a + d + 1 + 1 < l'.length by omega)] at h8
        exact bl_trans _ _ _ h7 h8
    refine ⟨HS.le.trans hle1 hle3, .inr ⟨?_, l', hp, hstr, A1, rfl, ?_⟩⟩
    · rw [hnd]
      unfold List.Nodup
      rw [List.pairwise_map]
      exact hstr.imp fun {x y} hxy e => by
        have hxy' : bl_ x.name y.name = true := hxy
        rw [e, bl_irrefl] at hxy'
        cases hxy'
    · rcases hA' with hA' | ⟨g1, g2, q, g3, g4⟩
      · exact .inl (hA'.base hle1)
      · exact .inr ⟨g1, g2, q, none_of_le hle1 g3, g4⟩
end Go.Proofs.YtkcgokkgefgcjaaGreatDoor.AS
end
section
namespace Go.Proofs.YtkcgokkgefgcjaaGreatDoor.AS
open Go.Proofs.YtkcgokkgefgcjaaGreatDoor.H Go.Proofs.YtkcgokkgefgcjaaGreatDoor.G0 Go.Proofs.YtkcgokkgefgcjaaGreatDoor.G1
set_option linter.unusedVariables false
set_option linter.unusedSimpArgs false
set_option maxRecDepth 100000
abbrev Slot := By × Int
def slC (x : Slot) : List HV := [strV x.1, .lit (.int .i64 x.2)]
theorem slC_len (x : Slot) : (slC x).length = 2 := rfl
structure Sh where
  who : By
  row : HV
  sl : List Slot
def shC (x : Sh) : List HV := [strV x.who, x.row]
theorem shC_len (x : Sh) : (shC x).length = 2 := rfl
def x0 : Sh := ⟨[], nilV, []⟩
/-- Shares: a row of names and of rows that grow, each one of its own. -/
structure Shares (b t : HS) (q : Nat) (L : List Sh) : Prop where
  free : b q = none
  at_ : t q = some (.cells (rows shC L))
  acc : ∀ x ∈ L, Acc b t 2 x.row x.sl.length (rows slC x.sl)
  apart : ∀ i j, i < j → j < L.length → accId (L.getD i x0).row = none ∨ accId (L.getD i x0).row ≠ accId (L.getD j x0).row
  self : ∀ x ∈ L, accId x.row ≠ some q
theorem hBS_mono {t : HS} {sz k : Nat} {zs : List HV} {l : List (Nat × HV)} {K K' : HV → HS → Prop} (h : hBS t sz k zs l K) (hk : ∀ v s, K v s → K' v s) : hBS t sz k zs l K' := by
  unfold hBS at h ⊢
  split
  · rename_i cs e
    rw [e] at h
    exact fun id hid => hk _ _ (h id hid)
  · rename_i e
    rw [e] at h
    exact h
theorem contains28 (o : Option (List By)) (k : By) (s : HS) (hl : (o.getD []).length ≤ 1000000000) : HC Tryz.prog 82 [rowV strC 1 o, strV k] s (fun v s' => v = .lit (.bool ((o.getD []).contains k)) ∧ s' = s) := by
  refine HC82 ?_
  unfold c82
  have hi : HC Tryz.prog 104 [rowV strC 1 o, strV k] s (fun v s' => v = .lit (.int .i64 (idxI (fun x => k == x) (o.getD []))) ∧ s' = s) := by
    refine HC104 ?_
    unfold c104
    have hlen : ∀ t, vLenT (Tryz.prog.underlying 33) t (rowV strC 1 o) = some (.lit (.int .i64 (((o.getD []).length : Nat) : Int))) := fun t => by cases o <;> rfl
    have hidx : ∀ i : Nat, i < (o.getD []).length → vIdx 1 (rowV strC 1 o) (.lit (.int .i64 (i : Int))) = some (.elt (strC ((o.getD []).getD i [])) 0) := fun i hi => by
      cases o with
      | none => simp at hi
      | some l => exact idx_rowL (enc := strC) (sz := 1) (fun _ => rfl) [] l .i64 hi
    simp only [hlen, bindO]
    generalize o.getD [] = l at *
    refine HLoop.ghost (σ := Nat) (fun i => [.lit (.int .i64 (i : Int))]) (fun i t => i ≤ l.length ∧ t = s ∧ ∀ x ∈ l.take i, (k == x) = false) (fun i => l.length - i) 0 rfl ⟨Nat.zero_le _, rfl, by simp⟩ ?_
    rintro i t K ⟨h1, rfl, h2⟩ hK
    simp only [List.headD_cons, lss_i]
    by_cases hlt : i < l.length
    · simp only [hlt, decide_true, hcond, hidx i hlt]
      rw [show vLoad t (.elt (strC (l.getD i [])) 0) 1 false = some (strV (l.getD i [])) from rfl, getD_get _ _ hlt]
      simp only [strV, vCmp, vBin, toL]
      cases he : (k == l[i]) with
      | true =>
        simp only
        refine ⟨?_, trivial⟩
        rw [idxI_at hlt h2 he]
      | false =>
        simp only [if_true, wrap_add1 (show i < 9223372036854775807 by omega)]
        refine hK (i + 1) _ _ rfl ⟨hlt, rfl, fun x hx => ?_⟩ (by show l.length - (i + 1) < l.length - i; omega)
        rw [take_succ' [] l hlt, getD_get _ _ hlt] at hx
        rcases List.mem_append.1 hx with hx | hx
        · exact h2 x hx
        · simp only [List.mem_singleton] at hx; rw [hx]; exact he
    · simp only [hlt, decide_false, hcond]
      obtain rfl : i = l.length := by omega
      rw [List.take_length] at h2
      rw [idxI_none h2]
      exact ⟨rfl, trivial⟩
  refine hi.mono ?_
  rintro v t ⟨rfl, rfl⟩
  simp only [vBin, if_true, bindO]
  refine ⟨?_, trivial⟩
  congr 2
  rcases idxI_cases (fun x => k == x) (o.getD []) with ⟨h1, h2⟩ | ⟨i, h1, h2, h3, h4⟩
  · rw [h1]
    have : (o.getD []).contains k = false := by
      cases e : (o.getD []).contains k with
      | false => rfl
      | true =>
        have := List.contains_iff_mem.1 e
        have h5 := h2 k this
        simp at h5
    rw [this]
    rfl
  · rw [h2]
    have : (o.getD []).contains k = true := by
      rw [List.contains_iff_mem]
      have := eq_of_beq h3
      rw [this]
      exact List.getElem_mem h1
    rw [this]
    simp
theorem rows_getD {α : Type} {enc : α → List HV} {sz : Nat} (h : ∀ x, (enc x).length = sz) (z : α) (l : List α) {i j : Nat} (hi : i < l.length) (hj : j < sz) : (rows enc l)[i * sz + j]? = (enc (l.getD i z))[j]? := by
  have h3 := rows_idx h z l i hi
  rw [← h3, List.getElem?_take, if_pos hj, List.getElem?_drop]
/-- One cell of one share is put. -/
theorem put_row (L : List Sh) (i : Nat) (hi : i < L.length) (A : HV) (sl : List Slot) : putCells (rows shC L) (i * 2 + 1) [A] = rows shC (L.set i ⟨(L.getD i x0).who, A, sl⟩) := by
  induction L generalizing i with
  | nil => simp at hi
  | cons x L ih =>
    cases i with
    | zero => rfl
    | succ i =>
      have hi' : i < L.length := by simpa using hi
      have := ih i hi'
      simp only [putCells, List.length_singleton] at this ⊢
      rw [rows_cons, List.set_cons_succ, rows_cons, show (x :: L).getD (i + 1) x0 = L.getD i x0 from rfl, ← this, show (i + 1) * 2 + 1 = (i * 2 + 1) + 1 + 1 by omega]
      rfl
theorem gives29 {b t : HS} {q : Nat} {L : List Sh} (h : Shares b t q L) (hb : HS.le b t) (mv tv : HV) (n : Nat) (f : Bool) {i : Nat} (hn : n = L.length) (hi : i < L.length) (x : Slot) (hx : (L.getD i x0).sl.length < 1000000000000) :
    HC Tryz.prog 83 [.agg [mv, tv, .view q 0 2 n f], .lit (.int .i64 (i : Int)), .agg (slC x)] t (fun v t' => ∃ A, Shares b t' q (L.set i ⟨(L.getD i x0).who, A, (L.getD i x0).sl ++ [x]⟩) ∧ HS.le b t' ∧ ∀ k ob, t k = some ob → k ≠ q → accId (L.getD i x0).row ≠ some k → t' k = some ob) := by
  refine HC83 ?_
  unfold c83
  have hAi := h.acc (L.getD i x0) (by rw [getD_get _ _ hi]; exact List.getElem_mem hi)
  have hself := h.self (L.getD i x0) (by rw [getD_get _ _ hi]; exact List.getElem_mem hi)
  refine hbox_intro (hc_agg _) fun b1 hb1 => ?_
  have nb1 : ∀ k ob, t k = some ob → k ≠ b1 := fun k ob hk => ne_new hk hb1
  have e1 := set_at t b1 (.cells [mv, tv, .view q 0 2 n f])
  have keep1 : ∀ k ob, t k = some ob → (t.set b1 (.cells [mv, tv, .view q 0 2 n f])) k = some ob := fun k ob hk => by rw [set_ne _ _ (nb1 k ob hk)]; exact hk
  have hA1 := hAi.new (.cells [mv, tv, .view q 0 2 n f]) hb1
  have hle1 := le_set_new (.cells [mv, tv, .view q 0 2 n f]) hb hb1
  have hAb1 : accId (L.getD i x0).row ≠ some b1 := fun e => nb1 _ _ (hAi.free e).2 rfl
  generalize t.set b1 (.cells [mv, tv, .view q 0 2 n f]) = t1 at *
  refine hbox_intro (hc_agg _) fun b2 hb2 => ?_
  have e2 := set_at t1 b2 (.cells (slC x))
  have e12 : (t1.set b2 (.cells (slC x))) b1 = some (.cells [mv, tv, .view q 0 2 n f]) := by rw [set_ne _ _ (ne_new e1 hb2)]; exact e1
  have keep2 : ∀ k ob, t k = some ob → (t1.set b2 (.cells (slC x))) k = some ob := fun k ob hk => by rw [set_ne _ _ (ne_new (keep1 k ob hk) hb2)]; exact keep1 k ob hk
  have hA2 := hA1.new (.cells (slC x)) hb2
  have hle2 := le_set_new (.cells (slC x)) hle1 hb2
  generalize t1.set b2 (.cells (slC x)) = t2 at *
  have hq2 := keep2 _ _ h.at_
  have l5 : vLoad t2 (.ptr b1 (0 + 2)) 1 false = some (.view q 0 2 n f) := load_cell 2 1 e12
  have l10 : vLoad t2 (.ptr q (i * 2 + 1)) 1 false = some (L.getD i x0).row := by
    rw [load_cell _ 1 hq2, rows_getD shC_len x0 L hi (by omega)]; rfl
  have l12 : vLoad t2 (.ptr b2 0) 2 true = some (.agg (slC x)) := load_all (slC_len x) e2
  simp only [vField, bindO, l5, lay_idx (show i < n by omega), l10, l12]
  have key := hA2.app1W (by_ := 24) (zs := [.lit (.string .empty), .lit (.int .i64 0)]) (W := fun s14 => vLoad s14 (.ptr q (i * 2 + 1)) 1 false = some (L.getD i x0).row ∧ vLoad s14 (.ptr b1 (0 + 2)) 1 false = some (.view q 0 2 n f)) (K := fun x15 s16 => vLoad s16 (.ptr b1 (0 + 2)) 1 false = some (.view q 0 2 n f) ∧ hStore s16 (.ptr q (i * 2 + 1)) x15 1 (fun s19 => ∃ A, Shares b s19 q (L.set i ⟨(L.getD i x0).who, A, (L.getD i x0).sl ++ [x]⟩) ∧ HS.le b s19 ∧ ∀ k ob, t k = some ob → k ≠ q → accId (L.getD i x0).row ≠ some k → s19 k = some ob)) hle2 (hc_agg (slC x)) rfl rfl ⟨by omega, by omega⟩ ?_ ?_
  · refine hBS_mono key fun v s hh => ?_
    obtain ⟨⟨w1, w2⟩, w3⟩ := hh
    refine ⟨w1, w2, w2, ?_⟩
    rw [w2]
    exact w3
  · intro id hid
    have f1 : (t2.set id (.cells (slC x))) q = some (.cells (rows shC L)) := by rw [set_ne _ _ (ne_new hq2 hid)]; exact hq2
    have f2 : (t2.set id (.cells (slC x))) b1 = some (.cells [mv, tv, .view q 0 2 n f]) := by rw [set_ne _ _ (ne_new e12 hid)]; exact e12
    refine ⟨?_, load_cell 2 1 f2⟩
    rw [load_cell _ 1 f1, rows_getD shC_len x0 L hi (by omega)]; rfl
  · intro A' t' k1 k2 k3
    obtain ⟨m1, m2⟩ := k3 b1 _ hAb1 e12
    obtain ⟨m3, m4⟩ := k3 q _ hself hq2
    refine ⟨load_cell 2 1 m1, ?_⟩
    have hpl : i * 2 + 1 + 1 ≤ (rows shC L).length := by rw [rows_len shC_len]; omega
    simp only [hStore, k1.hc, m3]
    refine ⟨by trivial, hpl, by simp [k1.one], A', ?_, le_set_free _ k2 h.free, ?_⟩
    · rw [put_row L i hi]
      have gj : ∀ j, j < L.length → j ≠ i → (L.set i ⟨(L.getD i x0).who, A', (L.getD i x0).sl ++ [x]⟩).getD j x0 = L.getD j x0 := fun j hj hne => by
        rw [List.getD, List.getElem?_set_ne (fun e => hne e.symm)]; rfl
      have gi : (L.set i ⟨(L.getD i x0).who, A', (L.getD i x0).sl ++ [x]⟩).getD i x0 = ⟨(L.getD i x0).who, A', (L.getD i x0).sl ++ [x]⟩ := by
        rw [List.getD, List.getElem?_set_self hi]; rfl
      have mem : ∀ j, j < L.length → L.getD j x0 ∈ L := fun j hj => by rw [getD_get _ _ hj]; exact List.getElem_mem hj
      have far : ∀ j, j < L.length → j ≠ i → ∀ k, accId (L.getD j x0).row = some k → accId (L.getD i x0).row ≠ some k := fun j hj hne k hk e => by
        rcases Nat.lt_or_ge i j with hlt | hge
        · rcases h.apart i j hlt hj with h1 | h1
          · rw [h1] at e; cases e
          · exact h1 (by rw [e, hk])
        · rcases h.apart j i (by omega) hi with h1 | h1
          · rw [h1] at hk; cases hk
          · exact h1 (by rw [e, hk])
      have cells : ∀ j, j < L.length → ∀ k, accId (L.getD j x0).row = some k → t k = some (.cells (rows slC (L.getD j x0).sl)) := fun j hj k hk => ((h.acc _ (mem j hj)).free hk).2
      refine ⟨h.free, set_at _ _ _, fun y hy => ?_, fun a c hac hc => ?_, fun y hy => ?_⟩
      · obtain ⟨j, hj, rfl⟩ := List.mem_iff_getElem.1 hy
        rw [List.length_set] at hj
        rw [← getD_get x0 _ (by rw [List.length_set]; exact hj)]
        by_cases hji : j = i
        · subst hji
          rw [gi]
          refine Acc.put ?_ _ m4
          rw [rows_app, rows_one, List.length_append]
          exact k1
        · rw [gj j hj hji]
          refine ((h.acc _ (mem j hj)).keep fun k ob hk hob => ?_).put _ (h.self _ (mem j hj))
          exact (k3 k ob (far j hj hji k hk) (keep2 k ob hob)).1
      · rw [List.length_set] at hc
        by_cases hai : a = i
        · subst hai
          rw [gi, gj c hc (by omega)]
          cases e : accId (L.getD c x0).row with
          | none =>
            cases e2 : accId A' with
            | none => exact .inl rfl
            | some k => exact .inr (fun h => by cases h)
          | some k => exact .inr (k3 k _ (far c hc (by omega) k e) (keep2 k _ (cells c hc k e))).2
        · by_cases hci : c = i
          · subst hci
            rw [gi, gj a (by omega) hai]
            cases e : accId (L.getD a x0).row with
            | none => exact .inl rfl
            | some k => exact .inr fun e2 => (k3 k _ (far a (by omega) hai k e) (keep2 k _ (cells a (by omega) k e))).2 e2.symm
          · rw [gj a (by omega) hai, gj c hc hci]
            exact h.apart a c hac hc
      · obtain ⟨j, hj, rfl⟩ := List.mem_iff_getElem.1 hy
        rw [List.length_set] at hj
        rw [← getD_get x0 _ (by rw [List.length_set]; exact hj)]
        by_cases hji : j = i
        · subst hji
          rw [gi]
          exact m4
        · rw [gj j hj hji]
          exact h.self _ (mem j hj)
    · intro k ob hk hkq hkA
      rw [set_ne _ _ hkq]
      exact (k3 k ob hkA (keep2 k ob hk)).1
end Go.Proofs.YtkcgokkgefgcjaaGreatDoor.AS
end
section
namespace Go.Proofs.YtkcgokkgefgcjaaGreatDoor.AS
open Go.Proofs.YtkcgokkgefgcjaaGreatDoor.H Go.Proofs.YtkcgokkgefgcjaaGreatDoor.G0 Go.Proofs.YtkcgokkgefgcjaaGreatDoor.G1
set_option linter.unusedVariables false
set_option linter.unusedSimpArgs false
set_option maxRecDepth 100000
def badT (t : Top) : Bool := decide (t.parts < 0) || decide (1000 < t.parts)
theorem bad42 (x : Top) (s : HS) : HC Tryz.prog 95 [.agg (topC x)] s (fun v t => t = s ∧ v = .lit (.bool (badT x))) := by
  refine HC.weaken (HC95 ?_)
  unfold c95
  refine hbox_intro (hc_agg _) fun p hp => ?_
  have l1 : vLoad (s.set p (.cells (topC x))) (.ptr p (0 + 1)) 1 false = some (.lit (.int .i64 x.parts)) := load_cell 1 1 (set_at _ _ _)
  simp only [vField, bindO, l1, vBin, if_true]
  have hle := le_set_new (.cells (topC x)) (le_refl' s) hp
  by_cases h1 : x.parts < 0
  · simp only [h1, decide_true, hcond]
    exact ⟨s, hle, rfl, by simp [badT, h1]⟩
  · simp only [h1, decide_false, hcond]
    exact ⟨s, hle, rfl, by simp [badT, h1]⟩
theorem any41 {s : HS} {A : HV} {l : List Top} (h : RowV s 2 A l.length (rows topC l)) (hl : l.length ≤ 1000000) : HC Tryz.prog 94 [A, .func (.func 95) []] s (fun v t => t = s ∧ v = .lit (.bool (l.any badT))) := by
  refine HC94 ?_
  unfold c94
  have hp : plainFn Tryz.prog 95 = true := by unfold plainFn; rw [Tryz.func95]; rfl
  have hi : HC Tryz.prog 110 [A, .func (.func 95) []] s (fun v t => v = .lit (.int .i64 (idxI badT l)) ∧ t = s) := by
    refine HC110 ?_
    rcases h with ⟨rfl, h2, h3⟩ | ⟨q, f, rfl, h2, h3⟩
    · obtain rfl : l = [] := List.eq_nil_of_length_eq_zero h3
      exact idxFunc_nil (Q := fun v t => v = .lit (.int .i64 (idxI badT [])) ∧ t = s) ⟨rfl, rfl⟩
    · refine idxFunc_gen (Q := fun v t => v = .lit (.int .i64 (idxI badT l)) ∧ t = s) topC_len t0 badT (rest := []) (by rw [List.append_nil]; exact h2) (by omega) (fun x hx K hK => ?_) ⟨rfl, rfl⟩
      simp only [hcall, hite_eq, hp, if_true, List.append_nil]
      refine (bad42 x s).mono ?_
      rintro v t ⟨rfl, rfl⟩
      exact hK
  refine hi.mono ?_
  rintro v t ⟨rfl, rfl⟩
  simp only [vBin, if_true, bindO]
  refine ⟨trivial, ?_⟩
  congr 2
  rcases idxI_cases badT l with ⟨h1, h2⟩ | ⟨i, h1, h2, h3, h4⟩
  · rw [h1, List.any_eq_false.2 fun x hx => by simp [h2 x hx]]
    rfl
  · rw [h2, List.any_eq_true.2 ⟨_, List.getElem_mem h1, h3⟩]
    simp
def okA (l : List Mem) (tl : List Top) : Prop := tl.any badT = false ∧ (l.map Mem.id).Nodup ∧ (tl.map Top.name).Nodup
def mk0 (l : List Mem) : List Sh := l.map fun m => ⟨m.id, nilV, []⟩
theorem acc0_one {b t : HS} {sz : Nat} {A : HV} {n : Nat} {cs : List HV} (h : Acc0 b t sz A n cs) : hone A = true ∧ hcells A = some [A] := by
  rcases h with h | ⟨-, -, q, -, rfl, -⟩
  · exact ⟨h.one, h.hc⟩
  · exact ⟨rfl, rfl⟩
theorem row_del {t : HS} {sz : Nat} {A : HV} {n : Nat} {cs : List HV} {b : HS} {p : Nat} (h : Acc0 b t sz A n cs) (hp : b p ≠ none) : RowV (t.del p) sz A n cs := by
  have hd : ∀ q ob, b q = none → t q = some ob → (t.del p) q = some ob := fun q ob hq ht => by
    have : q ≠ p := by rintro rfl; exact hp hq
    simp only [HS.del, if_neg this]; exact ht
  rcases h with (⟨h1, h2, h3⟩ | ⟨q, f, h1, rfl, h3, h4, h5⟩) | ⟨rfl, rfl, q, h1, rfl, h3⟩
  · exact .inl ⟨h1, h2, h3⟩
  · exact .inr ⟨q, f, rfl, hd _ _ h1 h3, h4⟩
  · exact .inr ⟨q, true, rfl, hd _ _ h1 h3, by simp⟩
def postOpen (l : List Mem) (tl : List Top) (s : HS) (v : HV) (u : HS) : Prop :=
  HS.le s u ∧ ((¬ okA l tl ∧ ∃ x y z, v = .tup [.agg [x, y, z], .lit (.bool false)] ∧ hone x = true ∧ hone y = true ∧ hone z = true) ∨
    (okA l tl ∧ ∃ ms ts A1 A2 SH b, ms.Perm l ∧ ts.Perm tl ∧ ms.Pairwise (fun x y => ltM x y = true) ∧ ts.Pairwise (fun x y => ltT x y = true) ∧ v = .tup [.agg [A1, A2, SH], .lit (.bool true)] ∧ hone A1 = true ∧ hone A2 = true ∧ hcells A2 = some [A2] ∧ HS.le s b ∧ HS.le b u ∧ RowV b 2 A1 ms.length (rows memC ms) ∧
      RowV b 2 A2 ts.length (rows topC ts) ∧ ((ms = [] ∧ SH = nilV) ∨ ∃ q f, SH = .view q 0 2 ms.length f ∧ Shares b u q (mk0 ms))))
theorem open27 {s : HS} {A B : HV} {l : List Mem} {tl : List Top} (hA : RowV s 2 A l.length (rows memC l)) (hB : RowV s 2 B tl.length (rows topC tl)) (hl : l.length ≤ 1000000) (htl : tl.length ≤ 1000000) :
    HC Tryz.prog 80 [A, B] s (fun v u => postOpen l tl s v u) := by
  refine HC80 ?_
  unfold c80
  intro p hp
  have ep := set_at s p (.cells [.lit (.slice none 0 0), .lit (.slice none 0 0), .lit (.slice none 0 0)])
  have hle1 := le_set_new (.cells [.lit (.slice none 0 0), .lit (.slice none 0 0), .lit (.slice none 0 0)]) (le_refl' s) hp
  generalize s.set p (.cells [.lit (.slice none 0 0), .lit (.slice none 0 0), .lit (.slice none 0 0)]) = s1 at *
  refine (any41 (hB.le hle1) htl).mono ?_
  rintro v t ⟨rfl, rfl⟩
  cases hbad : tl.any badT with
  | true =>
    simp only [hcond]
    rw [load_all (n := 3) rfl ep]
    simp only [bindO]
    refine store_all ep rfl rfl (by intro x hx; simp at hx; subst hx; rfl) ?_
    rw [load_all (n := 3) rfl (set_at _ _ _)]
    refine ⟨le_set_free _ hle1 hp, .inl ⟨fun h => ?_, _, _, _, rfl, rfl, rfl, rfl⟩⟩
    rw [h.1] at hbad; cases hbad
  | false =>
    simp only [hcond]
    refine (sorted43 (hA.le hle1) hl).mono ?_
    rintro v s9 ⟨hle9, h9⟩
    obtain ⟨okm, ms, A1, rfl, hm1, hm2, hmr⟩ : ∃ (okm : Bool) (ms : List Mem) (A1 : HV), v = .tup [A1, .lit (.bool okm)] ∧ (okm = true ↔ (l.map Mem.id).Nodup) ∧ (okm = true → ms.Perm l ∧ ms.Pairwise (fun x y => ltM x y = true)) ∧ Acc0 t s9 2 A1 ms.length (rows memC ms) ∧ ms.length ≤ 1000000 := by
      rcases h9 with ⟨h1, rfl⟩ | ⟨h1, l', h2, h3, A', rfl, h4⟩
      · exact ⟨false, [], nilV, rfl, ⟨fun h => (by cases h), fun h => absurd h h1⟩, fun h => (by cases h), .inl (Acc.nil _ _ _), by simp⟩
      · exact ⟨true, l', A', rfl, ⟨fun _ => h1, fun _ => rfl⟩, fun _ => ⟨h2, h3⟩, h4, by rw [h2.length_eq]; exact hl⟩
    obtain ⟨hmA, hml⟩ := hmr
    clear h9
    simp only [vExtract, List.getElem?_cons_zero, List.getElem?_cons_succ, bindO]
    refine (sorted45 ((hB.le hle1).le hle9) htl).mono ?_
    rintro v s13 ⟨hle13, h13⟩
    obtain ⟨okt, ts, A2, rfl, ht1, ht2, htA⟩ : ∃ (okt : Bool) (ts : List Top) (A2 : HV), v = .tup [A2, .lit (.bool okt)] ∧ (okt = true ↔ (tl.map Top.name).Nodup) ∧ (okt = true → ts.Perm tl ∧ ts.Pairwise (fun x y => ltT x y = true)) ∧ Acc0 s9 s13 2 A2 ts.length (rows topC ts) := by
      rcases h13 with ⟨h1, rfl⟩ | ⟨h1, l', h2, h3, A', rfl, h4⟩
      · exact ⟨false, [], nilV, rfl, ⟨fun h => (by cases h), fun h => absurd h h1⟩, fun h => (by cases h), .inl (Acc.nil _ _ _)⟩
      · exact ⟨true, l', A', rfl, ⟨fun _ => h1, fun _ => rfl⟩, fun _ => ⟨h2, h3⟩, h4⟩
    clear h13
    have ep9 := hle9 _ _ ep
    have ep13 := hle13 _ _ ep9
    obtain ⟨b, hbdef⟩ : ∃ b, s13.del p = b := ⟨_, rfl⟩
    have hbp : b p = none := by rw [← hbdef]; simp [HS.del]
    have hsb : HS.le s b := by rw [← hbdef]; exact le_del_free (HS.le.trans hle1 (HS.le.trans hle9 hle13)) hp
    have hb13 : HS.le b s13 := by rw [← hbdef]; exact le_del _ _
    have hmA13 : Acc0 t s13 2 A1 ms.length (rows memC ms) := by
      rcases hmA with h | ⟨h1, h2, q, h3, h4, h5⟩
      · exact .inl (h.le hle13)
      · exact .inr ⟨h1, h2, q, h3, h4, hle13 _ _ h5⟩
    have r1 : RowV b 2 A1 ms.length (rows memC ms) := by rw [← hbdef]; exact row_del hmA13 (by rw [ep]; exact fun h => by cases h)
    have r2 : RowV b 2 A2 ts.length (rows topC ts) := by rw [← hbdef]; exact row_del htA (by rw [ep9]; exact fun h => by cases h)
    have o1 := acc0_one hmA
    have o2 := acc0_one htA
    simp only [vExtract, List.getElem?_cons_zero, List.getElem?_cons_succ]
    rw [show vMk [(0, 1), (1, 1), (2, 1)] [.lit (.slice none 0 0), .lit (.slice none 0 0), .lit (.slice none 0 0)] [(0, A1), (1, A2)] = some (.agg [A1, A2, nilV]) by simp [vMk, hfill, o1.2, o2.2]]
    refine store_all ep13 rfl rfl (by intro x hx; simp at hx; rcases hx with rfl | rfl | rfl; exact o1.1; exact o2.1; rfl) ?_
    have hbt : HS.le b (s13.set p (.cells [A1, A2, nilV])) := le_set_free _ hb13 hbp
    have ept := set_at s13 p (.cells [A1, A2, nilV])
    generalize s13.set p (.cells [A1, A2, nilV]) = u0 at hbt ept ⊢
    rw [show vLenT (Tryz.prog.underlying 102) u0 A1 = some (.lit (.int .i64 (ms.length : Int))) from r1.len _ _]
    simp only
    refine HLoop.ghost (σ := HV × Nat) (fun g => [.lit (.int .i64 (g.2 : Int))]) (fun g u => g.2 ≤ ms.length ∧ u p = some (.cells [A1, A2, g.1]) ∧ HS.le b u ∧ accId g.1 ≠ some p ∧ Acc b u 2 g.1 g.2 (rows shC (mk0 (ms.take g.2)))) (fun g => ms.length - g.2) (nilV, 0) rfl ⟨Nat.zero_le _, ept, hbt, (by rintro ⟨⟩), Acc.nil _ _ _⟩ ?_
    rintro ⟨SH, i⟩ u K ⟨k1, k2, k3, k4, k5⟩ hK
    simp only at k1 k2 k3 k4 k5
    simp only [List.headD_cons, lss_i]
    by_cases hi : i < ms.length
    · obtain ⟨q, x1, y1⟩ := r1.at_ memC_len m0 hi
      simp only [hi, decide_true, hcond, x1, (y1 u k3).1]
      have hts : mk0 (ms.take (i + 1)) = mk0 (ms.take i) ++ [⟨(ms.getD i m0).id, nilV, []⟩] := by rw [take_succ' m0 ms hi]; simp [mk0]
      generalize ms.getD i m0 = m at *
      refine new_store rfl rfl (memC_one m) fun X hX => ?_
      have nXp := ne_new k2 hX
      have c1 : (u.set X (.cells (memC m))) p = some (.cells [A1, A2, SH]) := by rw [set_ne _ _ nXp]; exact k2
      have c2 := set_at u X (.cells (memC m))
      have c3 := k5.new (.cells (memC m)) hX
      have c4 := le_set_new (.cells (memC m)) k3 hX
      generalize u.set X (.cells (memC m)) = u1 at *
      have l1 : vLoad u1 (.ptr p (0 + 2)) 1 false = some SH := load_cell 2 1 c1
      have l2 : vLoad u1 (.ptr X (0 + 0)) 1 false = some (strV m.id) := load_cell 0 1 c2
      simp only [vField, l1, l2]
      rw [show vMk [(0, 1), (1, 1)] [.lit (.string .empty), .lit (.slice none 0 0)] [(0, strV m.id)] = some (.agg (shC ⟨m.id, nilV, []⟩)) by simp [vMk, hfill, strV, hc_string]; rfl]
      refine c3.app1 c4 (hc_agg _) rfl rfl ⟨by omega, by omega⟩ fun A' u2 g1 g2 g3 => ?_
      obtain ⟨d1, d2⟩ := g3 p _ k4 c1
      simp only [hStore, g1.hc, d1]
      refine ⟨by trivial, by simp, by simp [g1.one], ?_⟩
      rw [wlit1, add_i (show i + 1 < 9223372036854775808 by omega)]
      refine hK (A', i + 1) _ _ rfl ⟨hi, set_at _ _ _, le_set_free _ g2 hbp, d2, ?_⟩ (by show ms.length - (i + 1) < ms.length - i; omega)
      show Acc b _ 2 A' (i + 1) (rows shC (mk0 (ms.take (i + 1))))
      rw [hts, rows_app, rows_one]
      exact g1.put _ d2
    · obtain rfl : i = ms.length := by omega
      rw [List.take_length] at k5
      simp only [hi, decide_false, hcond]
      have hone3 : ∀ x ∈ [A1, A2, SH], hone x = true := by intro x hx; simp at hx; rcases hx with rfl | rfl | rfl; exact o1.1; exact o2.1; exact k5.one
      rw [load_all (n := 3) rfl k2]
      have hfin : ∀ (c : Bool), (c = true ↔ okA l tl) → postOpen l tl s (.tup [.agg [A1, A2, SH], .lit (.bool c)]) (u.set p (.cells [A1, A2, SH])) := fun c hc => by
        refine ⟨HS.le.trans hsb (le_set_free _ k3 hbp), ?_⟩
        cases c with
        | false => exact .inl ⟨fun h => (by cases hc.2 h), _, _, _, rfl, o1.1, o2.1, k5.one⟩
        | true =>
          have hok := hc.1 rfl
          obtain ⟨e1, e2⟩ := hm2 (hm1.2 hok.2.1)
          obtain ⟨e3, e4⟩ := ht2 (ht1.2 hok.2.2)
          refine .inr ⟨hok, ms, ts, A1, A2, SH, b, e1, e3, e2, e4, rfl, o1.1, o2.1, o2.2, hsb, le_set_free _ k3 hbp, r1, r2, ?_⟩
          rcases k5 with ⟨h1, h2, h3⟩ | ⟨q, f, h1, rfl, h3, h4, h5⟩
          · exact .inl ⟨List.eq_nil_of_length_eq_zero h3, h1⟩
          · refine .inr ⟨q, f, rfl, h1, by rw [set_ne _ _ (fun e => k4 (by rw [e]; rfl))]; exact h3, fun x hx => ?_, fun i j hij hj => ?_, fun x hx => ?_⟩
            · obtain ⟨m, -, rfl⟩ := List.mem_map.1 hx
              exact Acc.nil _ _ _
            · left
              rw [getD_get _ _ (show i < (mk0 ms).length by omega)]
              simp [mk0]; rfl
            · obtain ⟨m, -, rfl⟩ := List.mem_map.1 hx
              rintro ⟨⟩
      cases okm with
      | true =>
        simp only
        refine store_all k2 rfl rfl hone3 ?_
        rw [load_all (n := 3) rfl (set_at _ _ _)]
        exact hfin okt ⟨fun h => ⟨hbad, hm1.1 rfl, ht1.1 h⟩, fun h => ht1.2 h.2.2⟩
      | false =>
        simp only
        refine store_all k2 rfl rfl hone3 ?_
        rw [load_all (n := 3) rfl (set_at _ _ _)]
        exact hfin false ⟨fun h => (by cases h), fun h => (by have := hm1.2 h.2.1; cases this)⟩
end Go.Proofs.YtkcgokkgefgcjaaGreatDoor.AS
end
section
namespace Go.Proofs.YtkcgokkgefgcjaaGreatDoor.AS
open Go.Proofs.YtkcgokkgefgcjaaGreatDoor.H Go.Proofs.YtkcgokkgefgcjaaGreatDoor.G0 Go.Proofs.YtkcgokkgefgcjaaGreatDoor.G1
set_option linter.unusedVariables false
set_option linter.unusedSimpArgs false
set_option maxRecDepth 100000
abbrev DD := List (By × List Slot)
def d0 : By × List Slot := ([], [])
def giveD (D : DD) (i : Nat) (x : Slot) : DD := D.set i ((D.getD i d0).1, (D.getD i d0).2 ++ [x])
def giveA (D : DD) (l : List (Nat × Slot)) : DD := l.foldl (fun D p => giveD D p.1 p.2) D
theorem giveD_len (D : DD) (i : Nat) (x : Slot) : (giveD D i x).length = D.length := by simp [giveD]
theorem giveA_len : ∀ (l : List (Nat × Slot)) (D : DD), (giveA D l).length = D.length
  | [], D => rfl
  | p :: l, D => by
    show (giveA (giveD D p.1 p.2) l).length = _
    rw [giveA_len l, giveD_len]
theorem giveA_app (D : DD) (a c : List (Nat × Slot)) : giveA D (a ++ c) = giveA (giveA D a) c := List.foldl_append
def dOf (x : Sh) : By × List Slot := (x.who, x.sl)
/-- Shares, told by what they hold. -/
def SharesP (b u : HS) (SH : HV) (D : DD) : Prop := (D = [] ∧ SH = nilV) ∨ ∃ q f L, L.map dOf = D ∧ SH = .view q 0 2 D.length f ∧ Shares b u q L
theorem SharesP.base {b c u : HS} {SH : HV} {D : DD} (h : SharesP c u SH D) (hle : HS.le b c) : SharesP b u SH D := by
  rcases h with h | ⟨q, f, L, h1, h2, h3⟩
  · exact .inl h
  · exact .inr ⟨q, f, L, h1, h2, ⟨none_of_le hle h3.free, h3.at_, fun x hx => (h3.acc x hx).base hle, h3.apart, h3.self⟩⟩
theorem SharesP.le {b u v : HS} {SH : HV} {D : DD} (h : SharesP b u SH D) (hle : HS.le u v) : SharesP b v SH D := by
  rcases h with h | ⟨q, f, L, h1, h2, h3⟩
  · exact .inl h
  · exact .inr ⟨q, f, L, h1, h2, ⟨h3.free, hle _ _ h3.at_, fun x hx => (h3.acc x hx).le hle, h3.apart, h3.self⟩⟩
/-- What lies elsewhere may be counted to what lies still. -/
theorem SharesP.grow {b u : HS} {SH : HV} {D : DD} (h : SharesP b u SH D) {k : Nat} (hk : u k = none) (ob : HObj) : SharesP (b.set k ob) u SH D := by
  rcases h with h | ⟨q, f, L, h1, h2, h3⟩
  · exact .inl h
  · have hne : ∀ j o, u j = some o → j ≠ k := fun j o hj e => by rw [e, hk] at hj; cases hj
    refine .inr ⟨q, f, L, h1, h2, ⟨by rw [set_ne _ _ (hne _ _ h3.at_)]; exact h3.free, h3.at_, fun x hx => ?_, h3.apart, h3.self⟩⟩
    rcases h3.acc x hx with h | ⟨r, g, e1, e2, e3, e4, e5⟩
    · exact .inl h
    · exact .inr ⟨r, g, by rw [set_ne _ _ (hne _ _ e3)]; exact e1, e2, e3, e4, e5⟩
theorem le_set_both {b u : HS} (h : HS.le b u) {k : Nat} {ob : HObj} (hk : u k = some ob) : HS.le (b.set k ob) u := fun j o hj => by
  simp only [HS.set] at hj
  split at hj
  · rename_i e; rw [e, hk]; exact hj
  · exact h j o hj
theorem gives29P {b t : HS} {SH : HV} {D : DD} (h : SharesP b t SH D) (hb : HS.le b t) (mv tv : HV) {i : Nat} (hi : i < D.length) (x : Slot) (hx : (D.getD i d0).2.length < 1000000000000) :
    HC Tryz.prog 83 [.agg [mv, tv, SH], .lit (.int .i64 (i : Int)), .agg (slC x)] t (fun v t' => SharesP b t' SH (giveD D i x) ∧ HS.le b t') := by
  rcases h with ⟨rfl, rfl⟩ | ⟨q, f, L, rfl, rfl, h3⟩
  · simp at hi
  · have hi' : i < L.length := by simpa using hi
    have hg : (L.map dOf).getD i d0 = dOf (L.getD i x0) := by
      rw [List.getD, List.getElem?_map, List.getElem?_eq_getElem hi', getD_get _ _ hi']; rfl
    rw [hg] at hx
    refine (gives29 h3 hb mv tv (L.map dOf).length f (by simp) hi' x hx).mono ?_
    rintro v t' ⟨A, k1, k2, -⟩
    refine ⟨.inr ⟨q, f, _, ?_, by rw [giveD_len], k1⟩, k2⟩
    unfold giveD
    rw [hg, List.map_set]
    rfl
theorem sharesP_start {b u : HS} {SH : HV} {ms : List Mem} (h : (ms = [] ∧ SH = nilV) ∨ ∃ q f, SH = .view q 0 2 ms.length f ∧ Shares b u q (mk0 ms)) : SharesP b u SH (ms.map fun m => (m.id, [])) := by
  rcases h with ⟨rfl, h⟩ | ⟨q, f, h1, h2⟩
  · exact .inl ⟨rfl, h⟩
  · refine .inr ⟨q, f, mk0 ms, ?_, by rw [List.length_map]; exact h1, h2⟩
    simp [mk0, dOf]
/-- Who reads a topic. -/
def whoOf (ms : List Mem) (t : Top) (n : Nat) : List Nat := (List.range n).filter fun i => ((ms.getD i m0).tp.getD []).contains t.name
theorem whoOf_succ (ms : List Mem) (t : Top) (n : Nat) : whoOf ms t (n + 1) = whoOf ms t n ++ (if ((ms.getD n m0).tp.getD []).contains t.name then [n] else []) := by
  unfold whoOf
  rw [List.range_succ, List.filter_append]
  congr 1
  generalize hf : (fun i => ((ms.getD i m0).tp.getD []).contains t.name) = p
  have hp : ((ms.getD n m0).tp.getD []).contains t.name = p n := by rw [← hf]
  rw [hp]
  cases h : p n <;> simp [h]
theorem whoOf_len (ms : List Mem) (t : Top) (n : Nat) : (whoOf ms t n).length ≤ n := by
  have := List.length_filter_le (fun i => ((ms.getD i m0).tp.getD []).contains t.name) (List.range n)
  simpa [whoOf] using this
theorem whoOf_lt (ms : List Mem) (t : Top) (n : Nat) : ∀ i ∈ whoOf ms t n, i < n := fun i hi => by
  have := (List.mem_filter.1 hi).1
  simpa using this
/-- How many parts the k-th of n gets, and where its parts begin. -/
def cnt (parts n k : Nat) : Nat := parts / n + if k < parts % n then 1 else 0
def cum (parts n : Nat) : Nat → Nat
  | 0 => 0
  | k + 1 => cum parts n k + cnt parts n k
def asgK (nm : By) (parts : Nat) (who : List Nat) (k j : Nat) : List (Nat × Slot) := (List.range j).map fun x => (who.getD k 0, (nm, ((cum parts who.length k + x : Nat) : Int)))
def asgT (nm : By) (parts : Nat) (who : List Nat) (k : Nat) : List (Nat × Slot) := (List.range k).flatMap fun k => asgK nm parts who k (cnt parts who.length k)
theorem asgT_succ (nm : By) (parts : Nat) (who : List Nat) (k : Nat) : asgT nm parts who (k + 1) = asgT nm parts who k ++ asgK nm parts who k (cnt parts who.length k) := by
  simp [asgT, List.range_succ]
theorem asgK_succ (nm : By) (parts : Nat) (who : List Nat) (k j : Nat) : asgK nm parts who k (j + 1) = asgK nm parts who k j ++ [(who.getD k 0, (nm, ((cum parts who.length k + j : Nat) : Int)))] := by
  simp [asgK, List.range_succ]
/-- What Range gives. -/
def rangeA (ms : List Mem) (ts : List Top) : List (Nat × Slot) := ts.flatMap fun t => asgT t.name t.parts.toNat (whoOf ms t ms.length) (whoOf ms t ms.length).length
theorem cum_eq (parts n : Nat) : ∀ k, cum parts n k = k * (parts / n) + min k (parts % n)
  | 0 => by simp [cum]
  | k + 1 => by
    rw [cum, cum_eq parts n k, cnt, Nat.succ_mul]
    split <;> omega
theorem cum_le {parts n k : Nat} (hk : k ≤ n) : cum parts n k ≤ parts := by
  rw [cum_eq]
  have h1 := Nat.mul_le_mul_right (parts / n) hk
  have h2 := Nat.div_add_mod parts n
  have h3 : min k (parts % n) ≤ parts % n := Nat.min_le_right _ _
  omega
theorem asgK_len (nm : By) (parts : Nat) (who : List Nat) (k j : Nat) : (asgK nm parts who k j).length = j := by simp [asgK]
theorem asgT_len (nm : By) (parts : Nat) (who : List Nat) : ∀ k, (asgT nm parts who k).length = cum parts who.length k
  | 0 => rfl
  | k + 1 => by rw [asgT_succ, List.length_append, asgT_len nm parts who k, asgK_len, cum]
theorem giveD_sl (D : DD) (i : Nat) (x : Slot) (j : Nat) : ((giveD D i x).getD j d0).2.length ≤ (D.getD j d0).2.length + 1 := by
  unfold giveD
  simp only [List.getD, List.getElem?_set]
  by_cases h : i = j
  · subst h
    by_cases hi : i < D.length
    · simp [hi]
    · simp [hi]
  · simp [h]
theorem giveA_sl : ∀ (l : List (Nat × Slot)) (D : DD) (j : Nat), ((giveA D l).getD j d0).2.length ≤ (D.getD j d0).2.length + l.length
  | [], D, j => Nat.le_refl _
  | p :: l, D, j => by
    have h1 := giveA_sl l (giveD D p.1 p.2) j
    have h2 := giveD_sl D p.1 p.2 j
    show ((giveA (giveD D p.1 p.2) l).getD j d0).2.length ≤ _
    rw [List.length_cons]
    omega
theorem rangeA_len (ms : List Mem) : ∀ (ts : List Top), (∀ t ∈ ts, t.parts ≤ 1000) → (rangeA ms ts).length ≤ 1000 * ts.length
  | [], _ => by simp [rangeA]
  | t :: ts, h => by
    have h1 := rangeA_len ms ts fun x hx => h x (List.mem_cons_of_mem _ hx)
    have h2 := h t List.mem_cons_self
    have h3 : (rangeA ms (t :: ts)).length = (asgT t.name t.parts.toNat (whoOf ms t ms.length) (whoOf ms t ms.length).length).length + (rangeA ms ts).length := by simp [rangeA]
    rw [h3, asgT_len, List.length_cons]
    have h4 := cum_le (parts := t.parts.toNat) (Nat.le_refl (whoOf ms t ms.length).length)
    omega
theorem rangeA_take (ms : List Mem) (ts : List Top) {i : Nat} (hi : i < ts.length) : rangeA ms (ts.take (i + 1)) = rangeA ms (ts.take i) ++ asgT (ts.getD i t0).name (ts.getD i t0).parts.toNat (whoOf ms (ts.getD i t0) ms.length) (whoOf ms (ts.getD i t0) ms.length).length := by
  rw [take_succ' t0 ts hi]
  simp [rangeA]
end Go.Proofs.YtkcgokkgefgcjaaGreatDoor.AS
end
section
namespace Go.Proofs.YtkcgokkgefgcjaaGreatDoor.AS
open Go.Proofs.YtkcgokkgefgcjaaGreatDoor.H Go.Proofs.YtkcgokkgefgcjaaGreatDoor.G0 Go.Proofs.YtkcgokkgefgcjaaGreatDoor.G1
set_option linter.unusedVariables false
set_option linter.unusedSimpArgs false
set_option maxRecDepth 100000
def intC (n : Nat) : List HV := [.lit (.int .i64 (n : Int))]
def postRange (rg : List Mem → List Top → List (Nat × Slot)) (l : List Mem) (tl : List Top) (s : HS) (v : HV) (u : HS) : Prop :=
  HS.le s u ∧ ((¬ okA l tl ∧ v = .tup [nilV, .lit (.int .i64 1)]) ∨ (okA l tl ∧ ∃ ms ts SH, ms.Perm l ∧ ts.Perm tl ∧ ms.Pairwise (fun x y => ltM x y = true) ∧ ts.Pairwise (fun x y => ltT x y = true) ∧ v = .tup [SH, .lit (.int .i64 0)] ∧ SharesP s u SH (giveA (ms.map fun m => (m.id, [])) (rg ms ts))))
theorem hone3 {x y z : HV} (hx : hone x = true) (hy : hone y = true) (hz : hone z = true) : ∀ w ∈ [x, y, z], hone w = true := by
  intro w hw
  simp at hw
  rcases hw with rfl | rfl | rfl <;> assumption
theorem parts_ok {tl : List Top} (h : tl.any badT = false) : ∀ t ∈ tl, 0 ≤ t.parts ∧ t.parts ≤ 1000 := fun t ht => by
  have := List.any_eq_false.1 h t ht
  simp [badT] at this
  omega
theorem sharesP_one {b u : HS} {SH : HV} {D : DD} (h : SharesP b u SH D) : hone SH = true ∧ hcells SH = some [SH] := by
  rcases h with ⟨-, rfl⟩ | ⟨q, f, L, -, rfl, -⟩ <;> exact ⟨rfl, rfl⟩
theorem quo_i {a n : Nat} (hn : 0 < n) (ha : a < 9223372036854775808) : vBin .quo (.lit (.int .i64 (a : Int))) (.lit (.int .i64 (n : Int))) = some (.lit (.int .i64 ((a / n : Nat) : Int))) := by
  have h0 : ¬ (n : Int) = 0 := by omega
  have h1 : a / n ≤ a := Nat.div_le_self a n
  have h2 : (a : Int).tdiv (n : Int) = ((a / n : Nat) : Int) := (Int.ofNat_tdiv a n).symm
  simp only [vBin, if_true, if_neg h0]
  rw [h2]
  generalize a / n = c at h1 ⊢
  rw [w64 (by omega) (by omega)]
theorem rem_i {a n : Nat} (hn : 0 < n) : vBin .rem (.lit (.int .i64 (a : Int))) (.lit (.int .i64 (n : Int))) = some (.lit (.int .i64 ((a % n : Nat) : Int))) := by
  have h0 : ¬ (n : Int) = 0 := by omega
  have h2 : (a : Int).tmod (n : Int) = ((a % n : Nat) : Int) := (Int.ofNat_tmod a n).symm
  simp only [vBin, if_true, if_neg h0, h2]
theorem range13 {s : HS} {A B : HV} {l : List Mem} {tl : List Top} (hA : RowV s 2 A l.length (rows memC l)) (hB : RowV s 2 B tl.length (rows topC tl)) (hl : l.length ≤ 1000000) (htl : tl.length ≤ 1000000) (htp : ∀ m ∈ l, (m.tp.getD []).length ≤ 1000000000) :
    HC Tryz.prog 69 [A, B] s (fun v u => postRange rangeA l tl s v u) := by
  refine HC69 ?_
  unfold c69
  refine (open27 hA hB hl htl).mono ?_
  rintro v s2 ⟨hle, hpost⟩
  rcases hpost with ⟨hbad, x, y, z, rfl, ox, oy, oz⟩ | ⟨hok, ms, ts, A1, A2, SH, b, pm, pt, sm, st, rfl, o1, o2, hc2, hsb, hbu, r1, r2, hsh⟩
  · simp only [vExtract, List.getElem?_cons_zero, List.getElem?_cons_succ, bindO]
    refine new_store rfl rfl (hone3 ox oy oz) fun p hp => ?_
    simp only [vUn, Bool.not_false, hcond]
    exact ⟨le_set_new _ hle hp, .inl ⟨hbad, rfl⟩⟩
  · have hshP := sharesP_start hsh
    have hmlen : ms.length = l.length := pm.length_eq
    have htlen : ts.length = tl.length := pt.length_eq
    have hparts : ∀ t ∈ ts, 0 ≤ t.parts ∧ t.parts ≤ 1000 := fun t ht => parts_ok hok.1 t (pt.mem_iff.1 ht)
    simp only [vExtract, List.getElem?_cons_zero, List.getElem?_cons_succ, bindO]
    refine new_store rfl rfl (hone3 o1 o2 (sharesP_one hshP).1) fun p hp => ?_
    have hP0 := (hshP.grow hp (.cells [A1, A2, SH])).le (le_set_new (.cells [A1, A2, SH]) (le_refl' s2) hp)
    have hbb : HS.le b (b.set p (.cells [A1, A2, SH])) := le_set_new _ (le_refl' b) (none_of_le hbu hp)
    have hbu0 : HS.le (b.set p (.cells [A1, A2, SH])) (s2.set p (.cells [A1, A2, SH])) := le_set_both (le_set_new _ hbu hp) (set_at _ _ _)
    have hp0 := set_at b p (.cells [A1, A2, SH])
    obtain ⟨bb, hbbe⟩ : ∃ bb, b.set p (.cells [A1, A2, SH]) = bb := ⟨_, rfl⟩
    rw [hbbe] at hP0 hbb hbu0 hp0
    generalize s2.set p (.cells [A1, A2, SH]) = u0 at *
    have r1' := r1.le hbb
    have r2' := r2.le hbb
    have hsbb := HS.le.trans hsb hbb
    clear hbbe hshP hsh hbu hp hle r1 r2
    have ldp : ∀ u, HS.le bb u → ∀ j, vLoad u (.ptr p (0 + j)) 1 false = [A1, A2, SH][j]? := fun u hu j => by rw [Nat.zero_add]; exact load_cell j 1 (hu _ _ hp0)
    simp only [vUn, Bool.not_true, hcond, vField, ldp u0 hbu0 1, List.getElem?_cons_zero, List.getElem?_cons_succ]
    rw [show vLenT (Tryz.prog.underlying 40) u0 A2 = some (.lit (.int .i64 (ts.length : Int))) from r2'.len _ _]
    simp only
    refine HLoop.ghost (σ := Nat) (fun i => [.lit (.int .i64 (i : Int))]) (fun i u => i ≤ ts.length ∧ HS.le bb u ∧ SharesP bb u SH (giveA (ms.map fun m => (m.id, [])) (rangeA ms (ts.take i)))) (fun i => ts.length - i) 0 rfl ⟨Nat.zero_le _, hbu0, by rw [List.take_zero]; exact hP0⟩ ?_
    rintro i u K ⟨hi, hu, hPu⟩ hK
    simp only [List.headD_cons, lss_i]
    by_cases hlt : i < ts.length
    · obtain ⟨qt, x1, y1⟩ := r2'.at_ topC_len t0 hlt
      simp only [hlt, decide_true, x1, (y1 u hu).1]
      have htake := rangeA_take ms ts hlt
      have hrl := rangeA_len ms (ts.take i) fun t ht => (hparts t (List.mem_of_mem_take ht)).2
      rw [List.length_take, Nat.min_eq_left hi] at hrl
      obtain ⟨tp0, tp1⟩ := hparts (ts.getD i t0) (by rw [getD_get _ _ hlt]; exact List.getElem_mem hlt)
      generalize ts.getD i t0 = T at *
      obtain ⟨nm, pz⟩ := T
      obtain ⟨np, rfl⟩ : ∃ np : Nat, pz = (np : Int) := ⟨pz.toNat, by simp only at tp0; omega⟩
      simp only [Int.toNat_natCast] at htake
      simp only at tp1
      refine new_store rfl rfl (topC_one _) fun X hX => ?_
      have hPX := (hPu.grow hX (.cells (topC ⟨nm, np⟩))).le (le_set_new (.cells (topC ⟨nm, np⟩)) (le_refl' u) hX)
      have hXb : HS.le bb (bb.set X (.cells (topC ⟨nm, np⟩))) := le_set_new _ (le_refl' bb) (none_of_le hu hX)
      have huX : HS.le (bb.set X (.cells (topC ⟨nm, np⟩))) (u.set X (.cells (topC ⟨nm, np⟩))) := le_set_both (le_set_new _ hu hX) (set_at _ _ _)
      have hX0 := set_at bb X (.cells (topC ⟨nm, np⟩))
      generalize u.set X (.cells (topC ⟨nm, np⟩)) = u1 at *
      generalize bb.set X (.cells (topC ⟨nm, np⟩)) = bX at *
      have ldX : ∀ w, HS.le bX w → ∀ j, vLoad w (.ptr X (0 + j)) 1 false = (topC ⟨nm, np⟩)[j]? := fun w hw j => by rw [Nat.zero_add]; exact load_cell j 1 (hw _ _ hX0)
      have ldp1 : ∀ w, HS.le bX w → ∀ j, vLoad w (.ptr p (0 + j)) 1 false = [A1, A2, SH][j]? := fun w hw j => ldp w (HS.le.trans hXb hw) j
      simp only [ldp1 u1 huX 0, List.getElem?_cons_zero]
      rw [show vLenT (Tryz.prog.underlying 102) u1 A1 = some (.lit (.int .i64 (ms.length : Int))) from r1'.len _ _]
      simp only
      have hfinT : ∀ w, HS.le bX w → SharesP bX w SH (giveA (ms.map fun m => (m.id, [])) (rangeA ms (ts.take (i + 1)))) → K [.lit (.int .i64 ((i + 1 : Nat) : Int))] w := fun w hw hP =>
        hK (i + 1) _ _ rfl ⟨hlt, HS.le.trans hXb hw, hP.base hXb⟩ (by omega)
      refine HLoop.ghost (σ := HV × Nat) (fun g => [g.1, .lit (.int .i64 (g.2 : Int))]) (fun g w => g.2 ≤ ms.length ∧ HS.le u1 w ∧ Acc u1 w 1 g.1 (whoOf ms ⟨nm, np⟩ g.2).length (rows intC (whoOf ms ⟨nm, np⟩ g.2))) (fun g => ms.length - g.2) (nilV, 0) rfl ⟨Nat.zero_le _, le_refl' u1, Acc.nil _ _ _⟩ ?_
      rintro ⟨W, k⟩ w K24 ⟨hk, hw, hW⟩ hK24
      simp only at hk hw hW
      simp only [List.headD_cons, List.tail_cons, lss_i]
      by_cases hkm : k < ms.length
      · obtain ⟨qm, x2, y2⟩ := r1'.at_ memC_len m0 hkm
        have hbw : HS.le bb w := HS.le.trans hXb (HS.le.trans huX hw)
        have hsucc := whoOf_succ ms ⟨nm, np⟩ k
        have hwl := whoOf_len ms ⟨nm, np⟩ k
        have hmt := htp (ms.getD k m0) (pm.mem_iff.1 (by rw [getD_get _ _ hkm]; exact List.getElem_mem hkm))
        simp only [hkm, decide_true, x2, (y2 w hbw).1]
        generalize ms.getD k m0 = m at *
        refine Join.of (fun xs w' => ∃ W', xs = [W'] ∧ HS.le u1 w' ∧ Acc u1 w' 1 W' (whoOf ms ⟨nm, np⟩ (k + 1)).length (rows intC (whoOf ms ⟨nm, np⟩ (k + 1)))) ?_ ?_
        · rintro _ w' ⟨W', rfl, g1, g2⟩
          simp only [List.headD_cons]
          rw [wlit1, add_i (show k + 1 < 9223372036854775808 by omega)]
          exact hK24 (W', k + 1) _ _ rfl ⟨hkm, g1, g2⟩ (by show ms.length - (k + 1) < ms.length - k; omega)
        · intro K28 hK28
          refine new_store rfl rfl (memC_one m) fun Y hY => ?_
          have hWY := hW.new (.cells (memC m)) hY
          have hwY := le_set_new (.cells (memC m)) hw hY
          have hY0 := set_at w Y (.cells (memC m))
          generalize w.set Y (.cells (memC m)) = w1 at *
          have lY : vLoad w1 (.ptr Y (0 + 1)) 1 false = some (rowV strC 1 m.tp) := load_cell 1 1 hY0
          have lX : vLoad w1 (.ptr X (0 + 0)) 1 false = some (strV nm) := ldX w1 (HS.le.trans huX hwY) 0
          simp only [lY, lX]
          refine (contains28 m.tp nm w1 hmt).mono ?_
          rintro v w2 ⟨rfl, rfl⟩
          cases hc : (m.tp.getD []).contains nm with
          | false =>
            simp only
            rw [hc] at hsucc
            simp only [Bool.false_eq_true, if_false, List.append_nil] at hsucc
            exact hK28 _ _ ⟨W, rfl, hwY, by rw [hsucc]; exact hWY⟩
          | true =>
            simp only
            rw [hc] at hsucc
            simp only [if_true] at hsucc
            refine hWY.app1 hwY (vs := intC k) rfl rfl rfl ⟨by omega, by omega⟩ fun W' w3 g1 g2 g3 => ?_
            refine hK28 _ _ ⟨W', rfl, g2, ?_⟩
            rw [hsucc, rows_app, rows_one, List.length_append]
            exact g1
      · obtain rfl : k = ms.length := by omega
        have hwl := whoOf_len ms ⟨nm, np⟩ ms.length
        have hwlt := whoOf_lt ms ⟨nm, np⟩ ms.length
        obtain ⟨who, hwho⟩ : ∃ who, whoOf ms ⟨nm, np⟩ ms.length = who := ⟨_, rfl⟩
        rw [hwho] at hW hwl hwlt htake
        obtain ⟨D0, hD0⟩ : ∃ D0, giveA (ms.map fun m => (m.id, [])) (rangeA ms (ts.take i)) = D0 := ⟨_, rfl⟩
        have hD0l : D0.length = ms.length := by rw [← hD0, giveA_len, List.length_map]
        have hD0s : ∀ j, (D0.getD j d0).2.length ≤ 1000 * i := fun j => by
          have h1 := giveA_sl (rangeA ms (ts.take i)) (ms.map fun m => (m.id, [])) j
          have h2 : (((ms.map fun m => ((m.id, []) : By × List Slot)).getD j d0).2).length = 0 := by
            simp only [List.getD, List.getElem?_map]
            cases ms[j]? <;> rfl
          rw [hD0] at h1
          omega
        rw [hD0] at hPX
        rw [htake, giveA_app, hD0] at hfinT
        have hcx : HS.le bX w := HS.le.trans huX hw
        obtain ⟨bW, hbW1, hbW2, hPW, hWl⟩ : ∃ bW, HS.le bX bW ∧ HS.le bW w ∧ SharesP bW w SH D0 ∧ RowV bW 1 W who.length (rows intC who) := by
          rcases hW with ⟨h1, h2, h3⟩ | ⟨q, f, h1, rfl, h3, h4, h5⟩
          · exact ⟨bX, le_refl' _, hcx, hPX.le hw, .inl ⟨h1, h2, h3⟩⟩
          · exact ⟨bX.set q (.cells (rows intC who)), le_set_new _ (le_refl' _) (none_of_le huX h1), le_set_both hcx h3, (hPX.grow h1 _).le hw, .inr ⟨q, f, rfl, set_at _ _ _, h4⟩⟩
        clear hW hPX
        simp only [hkm, decide_false]
        have hvl : ∀ v, vLenT (Tryz.prog.underlying 75) v W = some (.lit (.int .i64 (who.length : Int))) := fun v => hWl.len _ _
        simp only [hvl]
        refine HLoop.ghost (σ := Nat) (fun k => [.lit (.int .i64 ((cum np who.length k : Nat) : Int)), .lit (.int .i64 (k : Int))]) (fun k v => k ≤ who.length ∧ HS.le bW v ∧ SharesP bW v SH (giveA D0 (asgT nm np who k))) (fun k => who.length - k) 0 rfl ⟨Nat.zero_le _, hbW2, hPW⟩ ?_
        rintro k v K48 ⟨hk1, hv, hPv⟩ hK48
        simp only [List.headD_cons, List.tail_cons, lss_i]
        by_cases hkw : k < who.length
        · have hXv : HS.le bX v := HS.le.trans hbW1 hv
          obtain ⟨qw, x3, y3⟩ := hWl.at_ (enc := intC) (sz := 1) (fun _ => rfl) 0 hkw
          have l53 : vLoad v (.ptr qw (k * 1)) 1 false = some (.lit (.int .i64 ((who.getD k 0 : Nat) : Int))) := by have := (y3 v hv).2 0 (Nat.lt_succ_self 0) 1; rw [Nat.add_zero] at this; exact this
          have lP : ∀ w, HS.le bX w → vLoad w (.ptr X (0 + 1)) 1 false = some (.lit (.int .i64 (np : Int))) := fun w hw => ldX w hw 1
          have lN : ∀ w, HS.le bX w → vLoad w (.ptr X (0 + 0)) 1 false = some (strV nm) := fun w hw => ldX w hw 0
          have hnpb : np ≤ 1000 := by omega
          have hdv : np / who.length ≤ np := Nat.div_le_self _ _
          simp only [hkw, decide_true, x3, l53, lP v hXv, quo_i (show 0 < who.length by omega) (show np < 9223372036854775808 by omega)]
          have hwk : who.getD k 0 < ms.length := hwlt _ (by rw [getD_get _ _ hkw]; exact List.getElem_mem hkw)
          have hcn := cum_le (parts := np) (show k + 1 ≤ who.length from hkw)
          have hcs : cum np who.length (k + 1) = cum np who.length k + cnt np who.length k := rfl
          refine Join.of (fun xs w' => w' = v ∧ xs = [.lit (.int .i64 ((cnt np who.length k : Nat) : Int))]) ?_ ?_
          rotate_left
          · intro K58 hK58
            simp only [rem_i (show 0 < who.length by omega), lss_i]
            by_cases hr : k < np % who.length
            · simp only [hr, decide_true]
              rw [wlit1, add_i (by omega)]
              exact hK58 _ _ ⟨rfl, by rw [cnt, if_pos hr]⟩
            · simp only [hr, decide_false]
              exact hK58 _ _ ⟨rfl, by rw [cnt, if_neg hr]; rfl⟩
          rintro _ w' ⟨rfl, rfl⟩
          simp only [List.headD_cons]
          refine HLoop.ghost (σ := Nat) (fun j => [.lit (.int .i64 ((cum np who.length k + j : Nat) : Int)), .lit (.int .i64 (j : Int))]) (fun j v => j ≤ cnt np who.length k ∧ HS.le bW v ∧ SharesP bW v SH (giveA (giveA D0 (asgT nm np who k)) (asgK nm np who k j))) (fun j => cnt np who.length k - j) 0 rfl ⟨Nat.zero_le _, hv, hPv⟩ ?_
          rintro j v2 K67 ⟨hj, hv2, hP2⟩ hK67
          simp only [List.headD_cons, List.tail_cons, lss_i]
          by_cases hjc : j < cnt np who.length k
          · have hX2 : HS.le bX v2 := HS.le.trans hbW1 hv2
            have lA : vLoad v2 (.ptr p 0) 3 true = some (.agg [A1, A2, SH]) := load_all rfl (HS.le.trans hXb hX2 _ _ hp0)
            simp only [hjc, decide_true, lA, lN v2 hX2]
            rw [show ∀ n : Int, vMk [(0, 1), (1, 1)] [.lit (.string .empty), .lit (.int .i64 0)] [(0, strV nm), (1, .lit (.int .i64 n))] = some (.agg (slC (nm, n))) from fun n => by simp [vMk, hfill, strV, hc_string, hc_int]; rfl]
            simp only
            refine (gives29P hP2 hv2 A1 A2 (i := who.getD k 0) (by rw [giveA_len, giveA_len, hD0l]; exact hwk) _ ?_).mono ?_
            · have h1 := giveA_sl (asgK nm np who k j) (giveA D0 (asgT nm np who k)) (who.getD k 0)
              have h2 := giveA_sl (asgT nm np who k) D0 (who.getD k 0)
              have h3 := hD0s (who.getD k 0)
              rw [asgK_len] at h1
              rw [asgT_len] at h2
              omega
            · rintro v' v3 ⟨hP3, hv3⟩
              rw [wlit1, add_i (by omega), add_i (by omega)]
              refine hK67 (j + 1) _ _ (by show _ = [HV.lit (.int .i64 ((cum np who.length k + (j + 1) : Nat) : Int)), _]; rw [Nat.add_assoc]) ⟨hjc, hv3, ?_⟩ (by omega)
              rw [asgK_succ, giveA_app]
              exact hP3
          · obtain rfl : j = cnt np who.length k := by omega
            simp only [hjc, decide_false]
            rw [wlit1, add_i (by omega)]
            refine hK48 (k + 1) _ _ rfl ⟨hkw, hv2, ?_⟩ (by omega)
            rw [asgT_succ, giveA_app]
            exact hP2
        · obtain rfl : k = who.length := by omega
          simp only [hkw, decide_false]
          rw [wlit1, add_i (show i + 1 < 9223372036854775808 by omega)]
          exact hfinT v (HS.le.trans hbW1 hv) (hPv.base hbW1)
    · obtain rfl : i = ts.length := by omega
      rw [List.take_length] at hPu
      simp only [hlt, decide_false, ldp u hu 2, List.getElem?_cons_zero, List.getElem?_cons_succ]
      exact ⟨HS.le.trans hsbb hu, .inr ⟨hok, ms, ts, SH, pm, pt, sm, st, rfl, hPu.base hsbb⟩⟩
end Go.Proofs.YtkcgokkgefgcjaaGreatDoor.AS
end
section
namespace Go.Proofs.YtkcgokkgefgcjaaGreatDoor.AS
open Go.Proofs.YtkcgokkgefgcjaaGreatDoor.H Go.Proofs.YtkcgokkgefgcjaaGreatDoor.G0 Go.Proofs.YtkcgokkgefgcjaaGreatDoor.G1
set_option linter.unusedVariables false
set_option linter.unusedSimpArgs false
set_option maxRecDepth 100000
theorem acc0_upAtL {b t : HS} {sz : Nat} {A : HV} {n : Nat} {cs : List HV} (h : Acc0 b t sz A n cs) (hb : HS.le b t) (ys zs : List HV) (hy : ∀ q cs, ys.map (frz2 q cs) = ys) (hz : ∀ q cs, zs.map (frz2 q cs) = zs) : UpL (ys ++ A :: zs) t (ys ++ .list sz n cs false :: zs) b := by
  rcases h with h | ⟨rfl, rfl, q, h3, rfl, h4⟩
  · exact h.upAtL hb ys zs hy hz
  · have := UpL.freeze (ys := ys) (zs := zs) (id := q) (off := 0) (sz := sz) (n := 0) (full := true) (full' := false) (fun h => by cases h) h4 (by simp)
    simp only [Nat.zero_mul, List.take_zero] at this
    refine this.trans (UpL.le _ (le_del_free hb h3))
/-- What stands in order, and is the same, is the same row. -/
theorem strict_uniq {α : Type} (nm : α → By) : ∀ (a b : List α), a.Pairwise (fun x y => bl_ (nm x) (nm y) = true) → b.Pairwise (fun x y => bl_ (nm x) (nm y) = true) → (∀ x, x ∈ a ↔ x ∈ b) → a = b
  | [], [], _, _, _ => rfl
  | [], y :: b, _, _, h => by have := (h y).2 List.mem_cons_self; cases this
  | x :: a, [], _, _, h => by have := (h x).1 List.mem_cons_self; cases this
  | x :: a, y :: b, ha, hb, h => by
    have ha' := List.pairwise_cons.1 ha
    have hb' := List.pairwise_cons.1 hb
    have e : x = y := by
      rcases List.mem_cons.1 ((h x).1 List.mem_cons_self) with e | h1
      · exact e
      · rcases List.mem_cons.1 ((h y).2 List.mem_cons_self) with e | h2
        · exact e.symm
        · have h3 := bl_asymm (hb'.1 _ h1)
          rw [ha'.1 _ h2] at h3
          cases h3
    subst e
    congr 1
    refine strict_uniq nm a b ha'.2 hb'.2 fun z => ⟨fun hz => ?_, fun hz => ?_⟩
    · rcases List.mem_cons.1 ((h z).1 (List.mem_cons_of_mem _ hz)) with e | h1
      · have := ha'.1 _ hz
        rw [e, bl_irrefl] at this
        cases this
      · exact h1
    · rcases List.mem_cons.1 ((h z).2 (List.mem_cons_of_mem _ hz)) with e | h1
      · have := hb'.1 _ hz
        rw [e, bl_irrefl] at this
        cases this
      · exact h1
/-- A row in order without two alike, of what another strictly ordered row holds, is that row. -/
theorem sorted_is {α : Type} (nm : α → By) {a b : List α} (hp : a.Perm b) (ha : a.Pairwise fun x y => bl_ (nm y) (nm x) = false) (hb : b.Pairwise fun x y => bl_ (nm x) (nm y) = true) : a = b := by
  refine strict_uniq nm a b ?_ hb fun x => hp.mem_iff
  have hnd : (a.map nm).Nodup := by
    refine (hp.map nm).nodup_iff.2 ?_
    unfold List.Nodup
    rw [List.pairwise_map]
    exact hb.imp fun {x y} h e => by rw [e, bl_irrefl] at h; cases h
  unfold List.Nodup at hnd
  rw [List.pairwise_map] at hnd
  exact (ha.and hnd).imp fun {x y} ⟨h1, h2⟩ => (bl_tri _ _ h1).elim (fun e => absurd e.symm h2) id
theorem cmp39 {s : HS} {rest : List HV} {q : Nat} : CmpOk Tryz.prog (.func (.func 102) []) topC ltT rest s q := by
  intro M x y K hK
  have hp : plainFn Tryz.prog 102 = true := by unfold plainFn; rw [Tryz.func102]; rfl
  generalize Lay topC rest s q M = t at *
  simp only [hcall, hite_eq, hp, if_true, List.append_nil]
  refine HC.weaken (HC102 ?_)
  unfold c102
  refine hbox_intro (hc_agg _) fun i1 h1 => ?_
  have e1 := set_at t i1 (.cells (topC x))
  have hle := le_set_new (.cells (topC x)) (le_refl' t) h1
  generalize t.set i1 (.cells (topC x)) = t1 at *
  refine hbox_intro (hc_agg _) fun i2 h2 => ?_
  have e2 := set_at t1 i2 (.cells (topC y))
  have e3 : (t1.set i2 (.cells (topC y))) i1 = some (.cells (topC x)) := by rw [set_ne _ _ (ne_new e1 h2)]; exact e1
  have hle2 := le_set_new (.cells (topC y)) hle h2
  generalize t1.set i2 (.cells (topC y)) = t2 at *
  have l1 : vLoad t2 (.ptr i1 (0 + 0)) 1 false = some (strV x.name) := load_cell 0 1 e3
  have l2 : vLoad t2 (.ptr i2 (0 + 0)) 1 false = some (strV y.name) := load_cell 0 1 e2
  simp only [vField, bindO, l1, l2]
  refine (cmp40 x.name y.name t2).mono ?_
  rintro v t5 ⟨rfl, n, rfl, hn⟩
  exact ⟨t, hle2, hK n hn⟩
def slotsOf (ts : List Top) : List Slot := ts.flatMap fun t => (List.range t.parts.toNat).map fun j => (t.name, ((j : Nat) : Int))
theorem slotsOf_take (ts : List Top) {i : Nat} (hi : i < ts.length) : slotsOf (ts.take (i + 1)) = slotsOf (ts.take i) ++ (List.range (ts.getD i t0).parts.toNat).map fun j => ((ts.getD i t0).name, ((j : Nat) : Int)) := by
  rw [take_succ' t0 ts hi]; simp [slotsOf]
theorem slotsOf_at (ts : List Top) {i j : Nat} (hi : i < ts.length) (hj : j < (ts.getD i t0).parts.toNat) : (slotsOf (ts.take i)).length + j < (slotsOf ts).length ∧ (slotsOf ts).getD ((slotsOf (ts.take i)).length + j) ([], 0) = ((ts.getD i t0).name, (j : Int)) := by
  have h1 : slotsOf ts = slotsOf (ts.take i) ++ (((List.range (ts.getD i t0).parts.toNat).map fun j => ((ts.getD i t0).name, ((j : Nat) : Int))) ++ slotsOf (ts.drop (i + 1))) := by
    rw [← List.append_assoc, ← slotsOf_take ts hi]
    conv => lhs; rw [← List.take_append_drop (i + 1) ts]
    simp only [slotsOf, List.flatMap_append]
  rw [h1]
  refine ⟨by simp only [List.length_append, List.length_map, List.length_range]; omega, ?_⟩
  generalize ts.getD i t0 = T at *
  simp only [List.getD]
  rw [List.getElem?_append_right (by omega), Nat.add_sub_cancel_left, List.getElem?_append_left (by simpa using hj), List.getElem?_map, List.getElem?_range hj]
  rfl
theorem gives36 {s : HS} {p : Nat} {B : HV} {tl ts : List Top} (hp : s p = some (.cells [B])) (hB : RowV s 2 B tl.length (rows topC tl)) (hl : tl.length ≤ 1000000) (pm : ts.Perm tl) (st : ts.Pairwise fun x y => ltT x y = true) (hpa : ∀ t ∈ ts, t.parts ≤ 1000000000) :
    GivesL Tryz.prog 100 [.ptr p 0] (slotsOf ts).length (fun i => [.agg (slC ((slotsOf ts).getD i ([], 0)))]) s := by
  intro idl J E s' hle hJ hJs hround h0
  refine G1.HC100 ?_
  unfold G1.c100
  rw [show vLoad s' (.ptr p 0) 1 false = some B from load_cell 0 1 (hle _ _ hp)]
  simp only [bindO]
  refine (clone37 (hB.le hle) (by omega)).mono ?_
  rintro A1 s2 ⟨hA1, hle2⟩
  refine (sortRow38 hA1 hle2 (fun q hq => cmp39) (by omega)).mono ?_
  rintro v s3 ⟨l', hpm, hso, hA', hle3⟩
  obtain rfl : l' = ts := sorted_is Top.name (hpm.trans pm.symm) hso st
  have hn : l'.length ≤ 1000000 := by rw [pm.length_eq]; exact hl
  rw [show vLenT (Tryz.prog.underlying 40) s3 A1 = some (.lit (.int .i64 (l'.length : Int))) from (acc0_row hA').len _ _]
  refine JoinU.of (fun xs t => xs = [rowL topC 2 l', .lit (.int .i64 (l'.length : Int)), .lit (.int .i64 0)] ∧ t = s') ?_ ?_
  rotate_left
  · intro K hK
    exact hK _ _ _ _ (acc0_upAtL hA' hle3 [] [.lit (.int .i64 (l'.length : Int)), .lit (.int .i64 0)] (fun _ _ => rfl) (fun _ _ => rfl)) ⟨rfl, rfl⟩
  rintro _ t ⟨rfl, rfl⟩
  simp only [List.headD_cons, List.tail_cons]
  refine HLoop.ghost (σ := Nat) (fun i => [.lit (.int .i64 (i : Int))]) (fun i t => i ≤ l'.length ∧ J (slotsOf (l'.take i)).length t) (fun i => l'.length - i) 0 rfl ⟨Nat.zero_le _, h0⟩ ?_
  rintro i t K ⟨hi, hj⟩ hK
  simp only [List.headD_cons, lss_i]
  by_cases hlt : i < l'.length
  · have hix := idx_rowL (enc := topC) (sz := 2) topC_len t0 l' .i64 hlt
    have htk := slotsOf_take l' hlt
    have hat := fun j => slotsOf_at l' (j := j) hlt
    have hpt := hpa (l'.getD i t0) (by rw [getD_get _ _ hlt]; exact List.getElem_mem hlt)
    simp only [hlt, decide_true, hcond, hix]
    generalize l'.getD i t0 = T at *
    rw [show ∀ u : HS, vLoad u (.elt (topC T) 0) 2 true = some (.agg (topC T)) from fun _ => rfl]
    simp only
    refine JoinU.of (fun xs u => xs = [.elt (topC T) 0] ∧ u = t) ?_ ?_
    rotate_left
    · intro K14 hK14
      refine new_store rfl rfl (topC_one T) fun X hX => ?_
      exact hK14 _ _ _ _ (UpL.frzP (set_at t X _) (le_set_new _ (le_refl' t) hX) hX [] []) ⟨rfl, rfl⟩
    rintro _ u ⟨rfl, rfl⟩
    obtain ⟨nm, pz⟩ := T
    have lN : ∀ w : HS, vLoad w (.elt (topC ⟨nm, pz⟩) (0 + 0)) 1 false = some (strV nm) := fun w => rfl
    have lP : ∀ w : HS, vLoad w (.elt (topC ⟨nm, pz⟩) (0 + 1)) 1 false = some (.lit (.int .i64 pz)) := fun w => rfl
    have hmx : hfold vMax2 (.lit (.int .i64 pz)) [.lit (.int .i64 0)] = some (.lit (.int .i64 ((pz.toNat : Nat) : Int))) := by
      simp only [hfold, vMax2, Option.bind_some]
      congr 3
      split <;> omega
    simp only [List.headD_cons, vField, lP, hmx]
    simp only at hat htk hpt
    refine HLoop.ghost (σ := Nat) (fun j => [.lit (.int .i64 (j : Int))]) (fun j t => j ≤ pz.toNat ∧ J ((slotsOf (l'.take i)).length + j) t) (fun j => pz.toNat - j) 0 rfl ⟨Nat.zero_le _, hj⟩ ?_
    rintro j v K25 ⟨hj1, hj2⟩ hK25
    simp only [List.headD_cons, lss_i]
    by_cases hjp : j < pz.toNat
    · obtain ⟨a1, a2⟩ := hat j hjp
      simp only [hjp, decide_true, lN]
      rw [show ∀ n : Int, vMk [(0, 1), (1, 1)] [.lit (.string .empty), .lit (.int .i64 0)] [(0, strV nm), (1, .lit (.int .i64 n))] = some (.agg (slC (nm, n))) from fun n => by simp [vMk, hfill, strV, hc_string, hc_int]; rfl]
      simp only [hcall]
      rw [← a2]
      refine hround _ _ _ a1 hj2 (fun t' h' => ?_) (fun t' h' => ?_)
      · simp only [vUn, Bool.not_true]
        rw [wlit1, add_i (show j + 1 < 9223372036854775808 by omega)]
        exact hK25 (j + 1) _ _ rfl ⟨hjp, h'⟩ (by omega)
      · simp only [vUn, Bool.not_false]
        exact .inr h'
    · obtain rfl : j = pz.toNat := by omega
      simp only [hjp, decide_false]
      rw [wlit1, add_i (show i + 1 < 9223372036854775808 by omega)]
      refine hK (i + 1) _ _ rfl ⟨hlt, ?_⟩ (by show l'.length - (i + 1) < l'.length - i; omega)
      rw [htk, List.length_append, List.length_map, List.length_range]
      exact hj2
  · obtain rfl : i = l'.length := by omega
    simp only [hlt, decide_false, hcond]
    rw [List.take_length] at hj
    exact .inl hj
end Go.Proofs.YtkcgokkgefgcjaaGreatDoor.AS
end
section
namespace Go.Proofs.YtkcgokkgefgcjaaGreatDoor.AS
open Go.Proofs.YtkcgokkgefgcjaaGreatDoor.H Go.Proofs.YtkcgokkgefgcjaaGreatDoor.G0 Go.Proofs.YtkcgokkgefgcjaaGreatDoor.G1
set_option linter.unusedVariables false
set_option linter.unusedSimpArgs false
set_option maxRecDepth 100000
def hasT (ms : List Mem) (nm : By) (i : Nat) : Bool := ((ms.getD i m0).tp.getD []).contains nm
/-- Who is next in the ring, of those that read a topic. -/
def pick (ms : List Mem) (nm : By) (next : Nat) : Option Nat := ((List.range ms.length).map fun k => (next + k) % ms.length).find? (hasT ms nm)
def roundStep (ms : List Mem) (g : Nat × List (Nat × Slot)) (x : Slot) : Nat × List (Nat × Slot) := match pick ms x.1 g.1 with
  | some i => (i + 1, g.2 ++ [(i, x)])
  | none => g
/-- What Round gives. -/
def roundG (ms : List Mem) (xs : List Slot) : Nat × List (Nat × Slot) := xs.foldl (roundStep ms) (0, [])
def roundA (ms : List Mem) (ts : List Top) : List (Nat × Slot) := (roundG ms (slotsOf ts)).2
theorem roundG_take (ms : List Mem) (xs : List Slot) {i : Nat} (hi : i < xs.length) : roundG ms (xs.take (i + 1)) = roundStep ms (roundG ms (xs.take i)) (xs.getD i ([], 0)) := by
  rw [take_succ' ([], 0) xs hi]
  simp [roundG]
theorem pick_lt {ms : List Mem} {nm : By} {next i : Nat} (h : pick ms nm next = some i) : i < ms.length ∧ hasT ms nm i = true := by
  have h1 := List.mem_of_find?_eq_some h
  have h2 := List.find?_some h
  obtain ⟨k, hk, rfl⟩ := List.mem_map.1 h1
  have hk' : k < ms.length := by simpa using hk
  exact ⟨Nat.mod_lt _ (by omega), h2⟩
theorem roundG_le (ms : List Mem) : ∀ (xs : List Slot) (g : Nat × List (Nat × Slot)), g.1 ≤ ms.length → (xs.foldl (roundStep ms) g).1 ≤ ms.length ∧ (xs.foldl (roundStep ms) g).2.length ≤ g.2.length + xs.length
  | [], g, h => ⟨h, Nat.le_refl _⟩
  | x :: xs, g, h => by
    rw [List.foldl_cons, List.length_cons]
    have hs : (roundStep ms g x).1 ≤ ms.length ∧ (roundStep ms g x).2.length ≤ g.2.length + 1 := by
      unfold roundStep
      split
      · rename_i i hi
        have := (pick_lt hi).1
        exact ⟨by show i + 1 ≤ _; omega, by simp⟩
      · exact ⟨h, Nat.le_succ _⟩
    have := roundG_le ms xs _ hs.1
    exact ⟨this.1, by omega⟩
theorem slots25 (a : HV) (s : HS) (ha : hcells a = some [a]) : HC Tryz.prog 81 [a] s (fun v t => ∃ p, s p = none ∧ v = .func (.func 100) [.ptr p 0] ∧ t = s.set p (.cells [a])) := by
  refine HC81 ?_
  unfold c81
  exact hbox_intro ha fun id hid => ⟨id, hid, rfl, rfl⟩
theorem plain36 : plainFn Tryz.prog 100 = true := by unfold plainFn; rw [Tryz.func100]; rfl
/-- What lies still elsewhere may be written, as far as shares go. -/
theorem SharesP.put {b u : HS} {SH : HV} {D : DD} (h : SharesP b u SH D) {k : Nat} (hk : b k ≠ none) (ob : HObj) : SharesP b (u.set k ob) SH D := by
  rcases h with h | ⟨q, f, L, h1, h2, h3⟩
  · exact .inl h
  · have hq : q ≠ k := by rintro rfl; exact hk h3.free
    refine .inr ⟨q, f, L, h1, h2, ⟨h3.free, by rw [set_ne _ _ hq]; exact h3.at_, fun x hx => (h3.acc x hx).put _ fun e => hk ((h3.acc x hx).free e).1, h3.apart, h3.self⟩⟩
/-- A round's token is no share. -/
theorem SharesP.near {b u v : HS} {SH : HV} {D : DD} {idl : Nat} (h : SharesP b u SH D) (hn : Near idl u v) : SharesP b v SH D := by
  rcases h with h | ⟨q, f, L, h1, h2, h3⟩
  · exact .inl h
  · exact .inr ⟨q, f, L, h1, h2, ⟨h3.free, hn.cells h3.at_, fun x hx => hn.acc (h3.acc x hx), h3.apart, h3.self⟩⟩
end Go.Proofs.YtkcgokkgefgcjaaGreatDoor.AS
end
section
namespace Go.Proofs.YtkcgokkgefgcjaaGreatDoor.AS
open Go.Proofs.YtkcgokkgefgcjaaGreatDoor.H Go.Proofs.YtkcgokkgefgcjaaGreatDoor.G0 Go.Proofs.YtkcgokkgefgcjaaGreatDoor.G1
set_option linter.unusedVariables false
set_option linter.unusedSimpArgs false
set_option maxRecDepth 100000
theorem new_store1 {s : HS} {z v : HV} {K : HV → HS → Prop} (hv : hcells v = some [v]) (ho : hone v = true) (h : ∀ q, s q = none → K (.ptr q 0) (s.set q (.cells [v]))) :
    hNew s (.cells [z]) (fun id => .ptr id 0) (fun x t => hStore t x v 1 (fun t' => K x t')) := by
  intro q hq
  have e : (s.set q (.cells [z])).set q (.cells [v]) = s.set q (.cells [v]) := by funext k; simp only [HS.set]; split <;> rfl
  unfold hStore
  simp only [hv, set_at]
  refine ⟨rfl, by simp, by simp [ho], ?_⟩
  rw [show putCells [z] 0 [v] = [v] from rfl, e]
  exact h q hq
theorem pick_some {ms : List Mem} {nm : By} {next k : Nat} (hk : k < ms.length) (h : ∀ j, j < k → hasT ms nm ((next + j) % ms.length) = false) (ht : hasT ms nm ((next + k) % ms.length) = true) : pick ms nm next = some ((next + k) % ms.length) := by
  unfold pick
  have e : List.range ms.length = List.range k ++ (k :: (List.range (ms.length - k - 1)).map fun x => k + 1 + x) := by
    conv => lhs; rw [show ms.length = k + (1 + (ms.length - k - 1)) by omega, List.range_add, List.range_add]
    simp [List.range_succ, Nat.add_assoc]
  rw [e, List.map_append, List.map_cons, List.find?_append]
  rw [List.find?_eq_none.2]
  · simp [ht]
  · intro x hx
    obtain ⟨j, hj, rfl⟩ := List.mem_map.1 hx
    rw [h j (by simpa using hj)]
    simp
theorem pick_no {ms : List Mem} {nm : By} {next : Nat} (h : ∀ j, j < ms.length → hasT ms nm ((next + j) % ms.length) = false) : pick ms nm next = none := by
  unfold pick
  rw [List.find?_eq_none]
  intro x hx
  obtain ⟨j, hj, rfl⟩ := List.mem_map.1 hx
  rw [h j (by simpa using hj)]
  simp
/-- What lies still may be told otherwise, as far as shares go. -/
theorem SharesP.rebase {b b' u : HS} {SH : HV} {D : DD} (h : SharesP b u SH D) (hb : ∀ k, b k = none → b' k = none) : SharesP b' u SH D := by
  rcases h with h | ⟨q, f, L, h1, h2, h3⟩
  · exact .inl h
  · refine .inr ⟨q, f, L, h1, h2, ⟨hb _ h3.free, h3.at_, fun x hx => ?_, h3.apart, h3.self⟩⟩
    rcases h3.acc x hx with h | ⟨r, g, e1, e2, e3, e4, e5⟩
    · exact .inl h
    · exact .inr ⟨r, g, hb _ e1, e2, e3, e4, e5⟩
/-- A round's token may be counted to what lies still. -/
theorem SharesP.tokG {b u : HS} {SH : HV} {D : DD} {idl : Nat} {R0 : HObj} (h : SharesP b u SH D) (ht : u idl = some R0) (tk : IsTok R0) (R1 : HObj) : SharesP (b.set idl R1) (u.set idl R1) SH D := by
  have hc : ∀ j cs, u j = some (.cells cs) → j ≠ idl := fun j cs hj e => by rw [e, ht] at hj; cases hj; exact tk
  rcases h with h | ⟨q, f, L, h1, h2, h3⟩
  · exact .inl h
  · refine .inr ⟨q, f, L, h1, h2, ⟨by rw [set_ne _ _ (hc _ _ h3.at_)]; exact h3.free, by rw [set_ne _ _ (hc _ _ h3.at_)]; exact h3.at_, fun x hx => ?_, h3.apart, h3.self⟩⟩
    rcases h3.acc x hx with h | ⟨r, g, e1, e2, e3, e4, e5⟩
    · exact .inl h
    · exact .inr ⟨r, g, by rw [set_ne _ _ (hc _ _ e3)]; exact e1, e2, by rw [set_ne _ _ (hc _ _ e3)]; exact e3, e4, e5⟩
theorem slots_len : ∀ (ts : List Top), (∀ t ∈ ts, t.parts ≤ 1000) → (slotsOf ts).length ≤ 1000 * ts.length
  | [], _ => by simp [slotsOf]
  | t :: ts, h => by
    have h1 := slots_len ts fun x hx => h x (List.mem_cons_of_mem _ hx)
    have h2 := h t List.mem_cons_self
    have h3 : (slotsOf (t :: ts)).length = t.parts.toNat + (slotsOf ts).length := by simp [slotsOf]
    rw [h3, List.length_cons]
    omega
theorem slC_one (x : Slot) : ∀ y ∈ slC x, hone y = true := by
  intro y hy
  simp only [slC, List.mem_cons, List.not_mem_nil, or_false] at hy
  rcases hy with rfl | rfl <;> rfl
theorem le_set_val {b u : HS} {k : Nat} {ob ob' : HObj} (h : HS.le (b.set k ob) u) : HS.le (b.set k ob') (u.set k ob') := by
  intro j o hj
  by_cases e : j = k
  · subst e; rw [set_at] at hj ⊢; exact hj
  · rw [set_ne _ _ e] at hj ⊢
    exact h j o (by rw [set_ne _ _ e]; exact hj)
theorem round10 {s : HS} {A B : HV} {l : List Mem} {tl : List Top} (hA : RowV s 2 A l.length (rows memC l)) (hB : RowV s 2 B tl.length (rows topC tl)) (hl : l.length ≤ 1000000) (htl : tl.length ≤ 1000000) (htp : ∀ m ∈ l, (m.tp.getD []).length ≤ 1000000000) :
    HC Tryz.prog 68 [A, B] s (fun v u => postRange roundA l tl s v u) := by
  refine HC68 ?_
  unfold c68
  refine (open27 hA hB hl htl).mono ?_
  rintro v s2 ⟨hle, hpost⟩
  rcases hpost with ⟨hbad, x, y, z, rfl, ox, oy, oz⟩ | ⟨hok, ms, ts, A1, A2, SH, b, pm, pt, sm, st, rfl, o1, o2, hc2, hsb, hbu, r1, r2, hsh⟩
  · simp only [vExtract, List.getElem?_cons_zero, List.getElem?_cons_succ, bindO]
    refine new_store rfl rfl (hone3 ox oy oz) fun p hp => ?_
    simp only [vUn, Bool.not_false, hcond]
    exact ⟨le_set_new _ hle hp, .inl ⟨hbad, rfl⟩⟩
  · have hshP := sharesP_start hsh
    have hmlen : ms.length = l.length := pm.length_eq
    have htlen : ts.length = tl.length := pt.length_eq
    have hparts : ∀ t ∈ ts, 0 ≤ t.parts ∧ t.parts ≤ 1000 := fun t ht => parts_ok hok.1 t (pt.mem_iff.1 ht)
    simp only [vExtract, List.getElem?_cons_zero, List.getElem?_cons_succ, bindO]
    refine new_store rfl rfl (hone3 o1 o2 (sharesP_one hshP).1) fun p hp => ?_
    have hP0 := (hshP.grow hp (.cells [A1, A2, SH])).le (le_set_new (.cells [A1, A2, SH]) (le_refl' s2) hp)
    have hbb : HS.le b (b.set p (.cells [A1, A2, SH])) := le_set_new _ (le_refl' b) (none_of_le hbu hp)
    have hbu0 : HS.le (b.set p (.cells [A1, A2, SH])) (s2.set p (.cells [A1, A2, SH])) := le_set_both (le_set_new _ hbu hp) (set_at _ _ _)
    have hp0 := set_at b p (.cells [A1, A2, SH])
    obtain ⟨bb, hbbe⟩ : ∃ bb, b.set p (.cells [A1, A2, SH]) = bb := ⟨_, rfl⟩
    rw [hbbe] at hP0 hbb hbu0 hp0
    generalize s2.set p (.cells [A1, A2, SH]) = u0 at *
    have r1' := r1.le hbb
    have r2' := r2.le hbb
    have hsbb := HS.le.trans hsb hbb
    clear hbbe hshP hsh hbu hp hle r1 r2
    simp only [vUn, Bool.not_true, hcond]
    refine new_store1 (hc_int _ _) (ho_int _ _) fun px hpx => ?_
    have bpx : bb px = none := none_of_le hbu0 hpx
    have hP1 := (hP0.grow hpx (.cells [.lit (.int .i64 0)])).le (le_set_new (.cells [.lit (.int .i64 0)]) (le_refl' u0) hpx)
    have hu1 : HS.le bb (u0.set px (.cells [.lit (.int .i64 0)])) := le_set_new _ hbu0 hpx
    have hbx : HS.le (bb.set px (.cells [.lit (.int .i64 0)])) (u0.set px (.cells [.lit (.int .i64 0)])) := le_set_both hu1 (set_at _ _ _)
    have ex1 := set_at u0 px (.cells [.lit (.int .i64 0)])
    generalize u0.set px (.cells [.lit (.int .i64 0)]) = u1 at *
    have ldp : ∀ u, HS.le bb u → ∀ j, vLoad u (.ptr p (0 + j)) 1 false = [A1, A2, SH][j]? := fun u hu j => by rw [Nat.zero_add]; exact load_cell j 1 (hu _ _ hp0)
    refine Join.of (fun _ u => HS.le bb u ∧ SharesP bb u SH (giveA (ms.map fun m => (m.id, [])) (roundA ms ts))) ?_ ?_
    · rintro _ u ⟨hu, hP⟩
      simp only [vField, ldp u hu 2, List.getElem?_cons_zero, List.getElem?_cons_succ]
      exact ⟨HS.le.trans hsbb hu, .inr ⟨hok, ms, ts, SH, pm, pt, sm, st, rfl, hP.base hsbb⟩⟩
    · intro K hK
      simp only [vField, ldp u1 hu1 1, List.getElem?_cons_zero, List.getElem?_cons_succ]
      refine (slots25 A2 u1 hc2).mono ?_
      rintro v u2 ⟨pb, hpb, rfl, rfl⟩
      have hPb := (hP1.grow hpb (.cells [A2])).le (le_set_new (.cells [A2]) (le_refl' u1) hpb)
      have nxb : px ≠ pb := ne_new ex1 hpb
      have hBle : HS.le bb (bb.set pb (.cells [A2])) := le_set_new _ (le_refl' bb) (none_of_le hu1 hpb)
      have hu2 : HS.le (bb.set pb (.cells [A2])) (u1.set pb (.cells [A2])) := le_set_both (le_set_new _ hu1 hpb) (set_at _ _ _)
      have hux : HS.le ((bb.set pb (.cells [A2])).set px (.cells [.lit (.int .i64 ((0 : Nat) : Int))])) (u1.set pb (.cells [A2])) := le_set_both hu2 (by rw [set_ne _ _ nxb]; exact ex1)
      have hPc : SharesP ((bb.set pb (.cells [A2])).set px (.cells [.lit (.int .i64 ((0 : Nat) : Int))])) (u1.set pb (.cells [A2])) SH (ms.map fun m => (m.id, [])) := by
        rw [set_comm bb (.cells [A2]) _ (Ne.symm nxb)]; exact hPb
      have bpx2 : (bb.set pb (.cells [A2])) px = none := by rw [set_ne _ _ nxb]; exact bpx
      have hpb0 := set_at bb pb (.cells [A2])
      generalize u1.set pb (.cells [A2]) = u2 at *
      obtain ⟨bc, hbc⟩ : ∃ bc, bb.set pb (.cells [A2]) = bc := ⟨_, rfl⟩
      rw [hbc] at hBle hu2 bpx2 hpb0 hux hPc
      clear hbc hPb hP1 hbx
      have hit := gives36 hpb0 (r2'.le hBle) (by omega) (List.Perm.refl ts) st (fun t ht => by have := (hparts t ht).2; omega)
      obtain ⟨xs, hxs⟩ : ∃ xs, slotsOf ts = xs := ⟨_, rfl⟩
      have hxl : xs.length ≤ 1000 * ts.length := by
        rw [← hxs]
        exact slots_len ts fun t ht => (hparts t ht).2
      have hRA : roundA ms ts = (roundG ms xs).2 := by rw [← hxs]; rfl
      rw [hxs] at hit
      rw [hRA] at hK
      have hleS : ∀ v : HObj, HS.le bc (bc.set px v) := fun v => le_set_new _ (le_refl' bc) bpx2
      refine HRange.seqL plain36 hu2 hit (fun i _ => rfl) (fun i u => HS.le (bc.set px (.cells [.lit (.int .i64 (((roundG ms (xs.take i)).1 : Nat) : Int))])) u ∧ SharesP (bc.set px (.cells [.lit (.int .i64 (((roundG ms (xs.take i)).1 : Nat) : Int))])) u SH (giveA (ms.map fun m => (m.id, [])) (roundG ms (xs.take i)).2)) (fun _ => False) (fun _ _ => False)
        (fun i u h => HS.le.trans (hleS _) h.1) ?_ (fun _ _ _ _ _ h => h) (fun _ _ _ _ _ _ h => h) ⟨hux, by rw [List.take_zero]; exact hPc⟩ ?_ (fun _ h => h.elim) (fun _ _ h => h.elim) ?_
      · rintro idl i u u' hi hn ⟨g1, g2⟩
        refine ⟨hn.le g1 ?_, g2.near hn⟩
        rw [set_ne _ _ (by rintro rfl; have := hux _ _ (set_at _ _ _); rw [hi] at this; cases this)]
        exact none_of_le hu2 hi
      · rintro u ⟨g1, g2⟩
        rw [List.take_length] at g2
        exact hK _ _ ⟨HS.le.trans hBle (HS.le.trans (hleS _) g1), (g2.base (hleS _)).base hBle⟩
      · rintro i u idl R0 R1 K' hi hid ht ⟨g1, g2⟩ kn kr kx tk0 tk1
        have htk := roundG_take ms xs hi
        obtain ⟨hnx, hal⟩ := roundG_le ms (xs.take i) (0, []) (Nat.zero_le _)
        change (roundG ms (xs.take i)).1 ≤ _ at hnx
        change (roundG ms (xs.take i)).2.length ≤ _ at hal
        rw [List.length_take] at hal
        generalize xs.getD i ([], 0) = x at *
        simp only [htk] at kn
        generalize roundG ms (xs.take i) = G at *
        obtain ⟨next, asg⟩ := G
        simp only [List.length_nil] at g1 g2 hnx hal
        have npx : px ≠ idl := by rintro rfl; have := g1 _ _ (set_at _ _ _); rw [this] at ht; cases ht; exact tk0
        have hidn : (bc.set px (.cells [.lit (.int .i64 (next : Int))])) idl = none := by rw [set_ne _ _ (Ne.symm npx)]; exact none_of_le hu2 hid
        simp only [List.headD_cons]
        refine new_store rfl rfl (slC_one x) fun X hX => ?_
        have hXi : idl ≠ X := ne_new ht hX
        have hP3 := ((g2.grow hX (.cells (slC x))).le (le_set_new (.cells (slC x)) (le_refl' u) hX)).tokG (by rw [set_ne _ _ hXi]; exact ht) tk0 R1
        have hb3 : HS.le (((bc.set px (.cells [.lit (.int .i64 (next : Int))])).set X (.cells (slC x))).set idl R1) ((u.set X (.cells (slC x))).set idl R1) := by
          refine le_set_both (le_set_free _ (le_set_both (le_set_new _ g1 hX) (set_at _ _ _)) ?_) (set_at _ _ _)
          rw [set_ne _ _ hXi]; exact hidn
        refine ⟨by rw [set_ne _ _ hXi]; exact ht, ?_⟩
        have bX : (bc.set px (.cells [.lit (.int .i64 (next : Int))])) X = none := none_of_le g1 hX
        have npX : px ≠ X := by rintro rfl; rw [set_at] at bX; cases bX
        generalize (u.set X (.cells (slC x))).set idl R1 = u3 at *
        obtain ⟨B3, hB3⟩ : ∃ B3, ((bc.set px (.cells [.lit (.int .i64 (next : Int))])).set X (.cells (slC x))).set idl R1 = B3 := ⟨_, rfl⟩
        have hB3p : B3 px = some (.cells [.lit (.int .i64 (next : Int))]) := by rw [← hB3, set_ne _ _ npx, set_ne _ _ npX, set_at]
        have hX3 : B3 X = some (.cells (slC x)) := by rw [← hB3, set_ne _ _ (Ne.symm hXi), set_at]
        have hB3i : B3 idl = some R1 := by rw [← hB3, set_at]
        have hB3l : HS.le (bc.set px (.cells [.lit (.int .i64 (next : Int))])) B3 := by
          rw [← hB3]
          refine le_set_free _ (le_set_new _ (le_refl' _) bX) hidn
        have hB3b : HS.le bb B3 := HS.le.trans hBle (HS.le.trans (hleS _) hB3l)
        rw [hB3] at hP3 hb3
        have hi3 : u3 idl = some R1 := hb3 _ _ hB3i
        simp only [ldp u3 (HS.le.trans hB3b hb3) 0, List.getElem?_cons_zero]
        rw [show vLenT (Tryz.prog.underlying 102) u3 A1 = some (.lit (.int .i64 (ms.length : Int))) from r1'.len _ _]
        simp only
        refine HLoop.ghost (σ := Nat) (fun k => [.lit (.int .i64 (k : Int))]) (fun k v => k ≤ ms.length ∧ v = u3 ∧ ∀ j, j < k → hasT ms x.1 ((next + j) % ms.length) = false) (fun k => ms.length - k) 0 rfl ⟨Nat.zero_le _, rfl, fun j hj => absurd hj (Nat.not_lt_zero _)⟩ ?_
        rintro k v K30 ⟨hk, rfl, hno⟩ hK30
        simp only [List.headD_cons, lss_i]
        by_cases hkm : k < ms.length
        · have hmod : (next + k) % ms.length < ms.length := Nat.mod_lt _ (by omega)
          have lpx : vLoad v (.ptr px 0) 1 false = some (.lit (.int .i64 (next : Int))) := load_cell 0 1 (hb3 _ _ hB3p)
          obtain ⟨qm, x2, y2⟩ := r1'.at_ memC_len m0 hmod
          have lm := (y2 v (HS.le.trans hB3b hb3)).2 1 (by omega) 1
          have lX : vLoad v (.ptr X (0 + 0)) 1 false = some (strV x.1) := load_cell 0 1 (hb3 _ _ hX3)
          simp only [hkm, decide_true, lpx, add_i (show next + k < 9223372036854775808 by omega), ldp v (HS.le.trans hB3b hb3) 0, List.getElem?_cons_zero]
          rw [show vLenT (Tryz.prog.underlying 102) v A1 = some (.lit (.int .i64 (ms.length : Int))) from r1'.len _ _]
          simp only [rem_i (show 0 < ms.length by omega), x2, lm]
          rw [show (memC (ms.getD ((next + k) % ms.length) m0))[1]? = some (rowV strC 1 (ms.getD ((next + k) % ms.length) m0).tp) from rfl]
          simp only [lX]
          have hmt := htp (ms.getD ((next + k) % ms.length) m0) (pm.mem_iff.1 (by rw [getD_get _ _ hmod]; exact List.getElem_mem hmod))
          refine (contains28 _ x.1 v hmt).mono ?_
          rintro r w ⟨rfl, rfl⟩
          cases hc : ((ms.getD ((next + k) % ms.length) m0).tp.getD []).contains x.1 with
          | false =>
            simp only
            rw [wlit1, add_i (show k + 1 < 9223372036854775808 by omega)]
            refine hK30 (k + 1) _ _ rfl ⟨hkm, rfl, fun j hj => ?_⟩ (by omega)
            rcases Nat.lt_succ_iff_lt_or_eq.1 hj with hj | rfl
            · exact hno j hj
            · exact hc
          | true =>
            have hpk := pick_some hkm hno hc
            have lA : vLoad w (.ptr p 0) 3 true = some (.agg [A1, A2, SH]) := load_all rfl (hb3 _ _ (hB3b _ _ hp0))
            have lS : vLoad w (.ptr X 0) 2 true = some (.agg (slC x)) := load_all rfl (hb3 _ _ hX3)
            simp only [lA, lS]
            have hgl : (giveA (ms.map fun m => ((m.id, []) : By × List Slot)) asg).length = ms.length := by rw [giveA_len, List.length_map]
            refine (gives29P hP3 hb3 A1 A2 (i := (next + k) % ms.length) (by rw [hgl]; exact hmod) x ?_).mono ?_
            · have h1 := giveA_sl asg (ms.map fun m => ((m.id, []) : By × List Slot)) ((next + k) % ms.length)
              have h2 : (((ms.map fun m => ((m.id, []) : By × List Slot)).getD ((next + k) % ms.length) d0).2).length = 0 := by
                simp only [List.getD, List.getElem?_map]
                cases ms[(next + k) % ms.length]? <;> rfl
              omega
            · rintro r' w4 ⟨hP4, hb4⟩
              rw [wlit1, add_i (show (next + k) % ms.length + 1 < 9223372036854775808 by omega)]
              have e4 := hb4 _ _ hB3p
              simp only [hStore, hc_int, e4]
              refine ⟨by trivial, by simp, fun y hy => by rw [List.mem_singleton.1 hy]; rfl, ?_⟩
              rw [show putCells [HV.lit (.int .i64 (next : Int))] 0 [.lit (.int .i64 (((next + k) % ms.length + 1 : Nat) : Int))] = [.lit (.int .i64 (((next + k) % ms.length + 1 : Nat) : Int))] from rfl]
              have hs : roundStep ms (next, asg) x = ((next + k) % ms.length + 1, asg ++ [((next + k) % ms.length, x)]) := by
                unfold roundStep
                simp only [hpk]
              rw [hs] at kn
              refine kn _ ?_ ⟨?_, ?_⟩
              · rw [set_ne _ _ (Ne.symm npx)]
                exact hb4 _ _ hB3i
              · exact le_set_val (HS.le.trans hB3l hb4)
              · have := (hP4.base hB3l).put (k := px) (by rw [set_at]; exact fun h => by cases h) (.cells [.lit (.int .i64 (((next + k) % ms.length + 1 : Nat) : Int))])
                rw [giveA_app]
                refine this.rebase fun j hj => ?_
                have hjp : j ≠ px := by rintro rfl; rw [set_at] at hj; cases hj
                rw [set_ne _ _ hjp] at hj ⊢
                exact hj
        · obtain rfl : k = ms.length := by omega
          simp only [hkm, decide_false]
          have hpk := pick_no hno
          have hs : roundStep ms (next, asg) x = (next, asg) := by
            unfold roundStep
            simp only [hpk]
          rw [hs] at kn
          exact kn _ hi3 ⟨HS.le.trans hB3l hb3, hP3.base hB3l⟩
end Go.Proofs.YtkcgokkgefgcjaaGreatDoor.AS
end
section
namespace Go.Proofs.YtkcgokkgefgcjaaGreatDoor.AS
open Go.Proofs.YtkcgokkgefgcjaaGreatDoor.H Go.Proofs.YtkcgokkgefgcjaaGreatDoor.G0 Go.Proofs.YtkcgokkgefgcjaaGreatDoor.G1
set_option linter.unusedVariables false
set_option linter.unusedSimpArgs false
set_option maxRecDepth 100000
/-- What somebody is given. -/
def shOf (l : List (Nat × Slot)) (i : Nat) : List Slot := (l.filter fun p => p.1 == i).map Prod.snd
theorem shOf_app (a b : List (Nat × Slot)) (i : Nat) : shOf (a ++ b) i = shOf a i ++ shOf b i := by simp [shOf]
theorem giveD_get (D : DD) (j : Nat) (x : Slot) {i : Nat} (hi : i < D.length) : (giveD D j x).getD i d0 = ((D.getD i d0).1, (D.getD i d0).2 ++ shOf [(j, x)] i) := by
  unfold giveD shOf
  by_cases h : j = i
  · subst h
    simp [List.getD, hi]
  · have h2 : (j == i) = false := by simpa using h
    simp [List.getD, h, h2]
theorem giveA_get : ∀ (l : List (Nat × Slot)) (D : DD) {i : Nat}, i < D.length → (giveA D l).getD i d0 = ((D.getD i d0).1, (D.getD i d0).2 ++ shOf l i)
  | [], D, i, hi => by simp [giveA, shOf]
  | p :: l, D, i, hi => by
    show (giveA (giveD D p.1 p.2) l).getD i d0 = _
    rw [giveA_get l _ (by rw [giveD_len]; exact hi), giveD_get D _ _ hi]
    simp only [List.append_assoc]
    rw [← shOf_app]
    rfl
def wanted (ms : List Mem) (nm : By) : Bool := (List.range ms.length).any (hasT ms nm)
structure Good (ms : List Mem) (ts : List Top) (l : List (Nat × Slot)) : Prop where
  slots : l.map Prod.snd = (slotsOf ts).filter fun x => wanted ms x.1
  who : ∀ p ∈ l, p.1 < ms.length ∧ hasT ms p.2.1 p.1 = true
theorem who_eq (ms : List Mem) (t : Top) : whoOf ms t ms.length = (List.range ms.length).filter (hasT ms t.name) := rfl
theorem asgT_snd (nm : By) (parts : Nat) (who : List Nat) : ∀ k, (asgT nm parts who k).map Prod.snd = (List.range (cum parts who.length k)).map fun j => (nm, ((j : Nat) : Int))
  | 0 => rfl
  | k + 1 => by
    rw [asgT_succ, List.map_append, asgT_snd nm parts who k, cum, List.range_add, List.map_append]
    congr 1
    simp [asgK]
theorem cum_all {parts n : Nat} (hn : 0 < n) : cum parts n n = parts := by
  rw [cum_eq]
  have h2 := Nat.div_add_mod parts n
  have h3 := Nat.mod_lt parts hn
  rw [Nat.min_eq_right (by omega)]
  exact h2
theorem asgT_who (nm : By) (parts : Nat) (who : List Nat) {k : Nat} (hk : k ≤ who.length) : ∀ p ∈ asgT nm parts who k, p.1 ∈ who ∧ p.2.1 = nm := by
  intro p hp
  obtain ⟨j, hj, hp⟩ := List.mem_flatMap.1 hp
  obtain ⟨x, hx, rfl⟩ := List.mem_map.1 hp
  have hj' : j < who.length := by have : j < k := by simpa using hj
                                  omega
  exact ⟨by rw [List.getD, List.getElem?_eq_getElem hj']; exact List.getElem_mem hj', rfl⟩
theorem good_range (ms : List Mem) : ∀ (ts : List Top), Good ms ts (rangeA ms ts)
  | [] => ⟨rfl, fun p hp => by simp [rangeA] at hp⟩
  | t :: ts => by
    have ih := good_range ms ts
    have e1 : rangeA ms (t :: ts) = asgT t.name t.parts.toNat (whoOf ms t ms.length) (whoOf ms t ms.length).length ++ rangeA ms ts := by simp [rangeA]
    have e2 : slotsOf (t :: ts) = ((List.range t.parts.toNat).map fun j => (t.name, ((j : Nat) : Int))) ++ slotsOf ts := by simp [slotsOf]
    refine ⟨?_, fun p hp => ?_⟩
    · rw [e1, e2, List.map_append, List.filter_append, ih.slots, asgT_snd]
      congr 1
      cases hw : wanted ms t.name with
      | false =>
        have : whoOf ms t ms.length = [] := by
          rw [who_eq, List.filter_eq_nil_iff]
          intro i hi h
          have := List.any_eq_false.1 hw i hi
          exact this h
        rw [this, List.filter_eq_nil_iff.2]
        · rfl
        · intro x hx
          obtain ⟨j, _, rfl⟩ := List.mem_map.1 hx
          simp [hw]
      | true =>
        obtain ⟨i, hi, h⟩ := List.any_eq_true.1 hw
        have hpos : 0 < (whoOf ms t ms.length).length := List.length_pos_of_mem (a := i) (by rw [who_eq]; exact List.mem_filter.2 ⟨hi, h⟩)
        rw [cum_all hpos, List.filter_eq_self.2]
        intro x hx
        obtain ⟨j, _, rfl⟩ := List.mem_map.1 hx
        exact hw
    · rw [e1] at hp
      rcases List.mem_append.1 hp with hp | hp
      · obtain ⟨h1, h2⟩ := asgT_who _ _ _ (Nat.le_refl _) p hp
        rw [who_eq] at h1
        obtain ⟨h3, h4⟩ := List.mem_filter.1 h1
        exact ⟨by simpa using h3, by rw [h2]; exact h4⟩
      · exact ih.who p hp
theorem pick_none {ms : List Mem} {nm : By} {next : Nat} (h : pick ms nm next = none) : wanted ms nm = false := by
  unfold wanted
  rw [List.any_eq_false]
  intro i hi hh
  have hi' : i < ms.length := by simpa using hi
  have h1 := List.find?_eq_none.1 h ((next + ((i + ms.length - next % ms.length) % ms.length)) % ms.length) (List.mem_map.2 ⟨_, List.mem_range.2 (Nat.mod_lt _ (by omega)), rfl⟩)
  have h2 : (next + ((i + ms.length - next % ms.length) % ms.length)) % ms.length = i := by
    have h3 := Nat.mod_lt next (show 0 < ms.length by omega)
    have h4 := Nat.div_add_mod next ms.length
    rw [Nat.add_mod_mod]
    rw [show next + (i + ms.length - next % ms.length) = i + ms.length * (next / ms.length + 1) by rw [Nat.mul_add, Nat.mul_one]; omega]
    rw [Nat.add_mul_mod_self_left, Nat.mod_eq_of_lt hi']
  rw [h2] at h1
  exact h1 hh
theorem good_roundG (ms : List Mem) : ∀ (xs : List Slot) (g : Nat × List (Nat × Slot)), (∀ p ∈ g.2, p.1 < ms.length ∧ hasT ms p.2.1 p.1 = true) →
    (xs.foldl (roundStep ms) g).2.map Prod.snd = g.2.map Prod.snd ++ xs.filter (fun x => wanted ms x.1) ∧ ∀ p ∈ (xs.foldl (roundStep ms) g).2, p.1 < ms.length ∧ hasT ms p.2.1 p.1 = true
  | [], g, h => ⟨by simp, h⟩
  | x :: xs, g, h => by
    rw [List.foldl_cons]
    cases hp : pick ms x.1 g.1 with
    | none =>
      have e : roundStep ms g x = g := by simp [roundStep, hp]
      rw [e, List.filter_cons, pick_none hp]
      exact good_roundG ms xs g h
    | some i =>
      obtain ⟨h1, h2⟩ := pick_lt hp
      have hw : wanted ms x.1 = true := List.any_eq_true.2 ⟨i, by simpa using h1, h2⟩
      have e : roundStep ms g x = (i + 1, g.2 ++ [(i, x)]) := by simp [roundStep, hp]
      rw [e, List.filter_cons, hw]
      obtain ⟨q1, q2⟩ := good_roundG ms xs (i + 1, g.2 ++ [(i, x)]) (fun p hp => by
        rcases List.mem_append.1 hp with hp | hp
        · exact h p hp
        · simp only [List.mem_singleton] at hp; subst hp; exact ⟨h1, h2⟩)
      exact ⟨by rw [q1]; simp, q2⟩
theorem good_round (ms : List Mem) (ts : List Top) : Good ms ts (roundA ms ts) := by
  obtain ⟨h1, h2⟩ := good_roundG ms (slotsOf ts) (0, []) (fun p hp => by cases hp)
  exact ⟨by simpa [roundA, roundG] using h1, h2⟩
theorem list_range_get (D : DD) : D = (List.range D.length).map fun i => D.getD i d0 := by
  apply List.ext_getElem
  · simp
  · intro i h1 h2
    simp [List.getD, h1]
/-- Of each slot who has it: somebody's slots. -/
def refShare (xs : List Slot) (who : List Int) (i : Nat) : List Slot := ((xs.zip who).filter fun p => p.2 == (i : Int)).map Prod.fst
theorem refShare_app {a b : List Slot} {u v : List Int} (h : a.length = u.length) (i : Nat) : refShare (a ++ b) (u ++ v) i = refShare a u i ++ refShare b v i := by
  simp [refShare, List.zip_append h]
theorem refShare_rep (xs : List Slot) (n i : Nat) (c : Int) : refShare xs (List.replicate n c) i = if c = (i : Int) then xs.take n else [] := by
  unfold refShare
  induction xs generalizing n with
  | nil => simp
  | cons x xs ih =>
    cases n with
    | zero => simp
    | succ n =>
      rw [List.replicate_succ, List.zip_cons_cons, List.filter_cons]
      by_cases h : c = (i : Int)
      · simp only [h, beq_self_eq_true, if_true, List.map_cons, List.take_succ_cons]
        have := ih n
        rw [if_pos h, h] at this
        rw [this]
      · have h2 : (c == (i : Int)) = false := by simpa using h
        simp only [h2, Bool.false_eq_true, if_false, h]
        have := ih n
        rw [if_neg h] at this
        exact this
/-- A topic's owners, part by part, of its first k readers. -/
def ownT (np : Nat) (who : List Nat) (k : Nat) : List Int := (List.range k).flatMap fun j => List.replicate (cnt np who.length j) ((who.getD j 0 : Nat) : Int)
theorem ownT_succ (np : Nat) (who : List Nat) (k : Nat) : ownT np who (k + 1) = ownT np who k ++ List.replicate (cnt np who.length k) ((who.getD k 0 : Nat) : Int) := by
  simp [ownT, List.range_succ]
theorem ownT_len (np : Nat) (who : List Nat) : ∀ k, (ownT np who k).length = cum np who.length k
  | 0 => rfl
  | k + 1 => by rw [ownT_succ, List.length_append, ownT_len np who k, List.length_replicate, cum]
def slotsT (nm : By) (n : Nat) : List Slot := (List.range n).map fun j => (nm, ((j : Nat) : Int))
theorem slotsT_len (nm : By) (n : Nat) : (slotsT nm n).length = n := by simp [slotsT]
theorem sh_ownT (nm : By) (np : Nat) (who : List Nat) (i : Nat) : ∀ k, shOf (asgT nm np who k) i = refShare (slotsT nm (cum np who.length k)) (ownT np who k) i
  | 0 => rfl
  | k + 1 => by
    have e : slotsT nm (cum np who.length (k + 1)) = slotsT nm (cum np who.length k) ++ (List.range (cnt np who.length k)).map fun x => (nm, ((cum np who.length k + x : Nat) : Int)) := by
      unfold slotsT
      rw [cum, List.range_add, List.map_append]
      simp
    rw [asgT_succ, shOf_app, sh_ownT nm np who i k, ownT_succ, e, refShare_app (by rw [slotsT_len, ownT_len]), refShare_rep]
    congr 1
    unfold shOf asgK
    split
    · rename_i h
      have h' : who.getD k 0 = i := by omega
      rw [h', List.filter_eq_self.2]
      · rw [List.take_of_length_le (by simp)]; simp
      · intro p hp
        obtain ⟨x, _, rfl⟩ := List.mem_map.1 hp
        simp
    · rename_i h
      rw [List.filter_eq_nil_iff.2]
      · rfl
      · intro p hp
        obtain ⟨x, _, rfl⟩ := List.mem_map.1 hp
        have : ¬ who.getD k 0 = i := fun e => h (by rw [e])
        simpa using this
/-- A topic's owners: -1, where nobody reads it. -/
def whoT (np : Nat) (who : List Nat) : List Int := ownT np who who.length ++ List.replicate (np - cum np who.length who.length) (-1)
theorem cum_le' {parts n k : Nat} (hk : k ≤ n) : cum parts n k ≤ parts := by
  rw [cum_eq]
  have h1 := Nat.mul_le_mul_right (parts / n) hk
  have h2 := Nat.div_add_mod parts n
  have h3 : min k (parts % n) ≤ parts % n := Nat.min_le_right _ _
  omega
theorem whoT_len (np : Nat) (who : List Nat) : (whoT np who).length = np := by
  rw [whoT, List.length_append, ownT_len, List.length_replicate]
  have := cum_le' (parts := np) (Nat.le_refl who.length)
  omega
theorem sh_whoT (nm : By) (np : Nat) (who : List Nat) (i : Nat) : shOf (asgT nm np who who.length) i = refShare (slotsT nm np) (whoT np who) i := by
  have h := cum_le' (parts := np) (Nat.le_refl who.length)
  have e : slotsT nm np = slotsT nm (cum np who.length who.length) ++ (List.range (np - cum np who.length who.length)).map fun x => (nm, ((cum np who.length who.length + x : Nat) : Int)) := by
    unfold slotsT
    conv => lhs; rw [show np = cum np who.length who.length + (np - cum np who.length who.length) by omega, List.range_add, List.map_append]
    simp
  rw [e, whoT, refShare_app (by rw [slotsT_len, ownT_len]), refShare_rep, if_neg (by omega), List.append_nil]
  exact sh_ownT nm np who i _
def whoR (ms : List Mem) (ts : List Top) : List Int := ts.flatMap fun t => whoT t.parts.toNat (whoOf ms t ms.length)
theorem sh_range (ms : List Mem) (i : Nat) : ∀ ts : List Top, shOf (rangeA ms ts) i = refShare (slotsOf ts) (whoR ms ts) i
  | [] => rfl
  | t :: ts => by
    have e1 : rangeA ms (t :: ts) = asgT t.name t.parts.toNat (whoOf ms t ms.length) (whoOf ms t ms.length).length ++ rangeA ms ts := by simp [rangeA]
    have e2 : slotsOf (t :: ts) = slotsT t.name t.parts.toNat ++ slotsOf ts := by simp [slotsOf, slotsT]
    have e3 : whoR ms (t :: ts) = whoT t.parts.toNat (whoOf ms t ms.length) ++ whoR ms ts := by simp [whoR]
    rw [e1, e2, e3, shOf_app, refShare_app (by rw [slotsT_len, whoT_len]), sh_range ms i ts, sh_whoT]
def rrStep (ms : List Mem) (g : Nat × List Int) (x : Slot) : Nat × List Int := match pick ms x.1 g.1 with
  | some i => (i + 1, g.2 ++ [((i : Nat) : Int)])
  | none => (g.1, g.2 ++ [-1])
def rrG (ms : List Mem) (xs : List Slot) : Nat × List Int := xs.foldl (rrStep ms) (0, [])
theorem rrG_snoc (ms : List Mem) (xs : List Slot) (x : Slot) : rrG ms (xs ++ [x]) = rrStep ms (rrG ms xs) x := by simp [rrG]
theorem roundG_snoc (ms : List Mem) (xs : List Slot) (x : Slot) : roundG ms (xs ++ [x]) = roundStep ms (roundG ms xs) x := by simp [roundG]
theorem snoc_ind {α : Type} {p : List α → Prop} (h0 : p []) (hs : ∀ l x, p l → p (l ++ [x])) (l : List α) : p l := by
  have : ∀ l : List α, p l.reverse := fun l => by
    induction l with
    | nil => exact h0
    | cons x l ih => rw [List.reverse_cons]; exact hs _ _ ih
  have := this l.reverse
  rwa [List.reverse_reverse] at this
theorem rrG_eq (ms : List Mem) (xs : List Slot) : (rrG ms xs).1 = (roundG ms xs).1 ∧ (rrG ms xs).2.length = xs.length ∧ ∀ i : Nat, shOf (roundG ms xs).2 i = refShare xs (rrG ms xs).2 i := by
  refine snoc_ind (p := fun xs => (rrG ms xs).1 = (roundG ms xs).1 ∧ (rrG ms xs).2.length = xs.length ∧ ∀ i : Nat, shOf (roundG ms xs).2 i = refShare xs (rrG ms xs).2 i) ⟨rfl, rfl, fun i => rfl⟩ ?_ xs
  rintro xs x ⟨h1, h2, h3⟩
  rw [rrG_snoc, roundG_snoc]
  generalize rrG ms xs = R at *
  generalize roundG ms xs = G at *
  unfold rrStep roundStep
  rw [h1]
  cases hp : pick ms x.1 G.1 with
  | none =>
    refine ⟨rfl, by simp [h2], fun i => ?_⟩
    simp only
    rw [h3 i, refShare_app h2.symm, show refShare [x] [-1] i = [] from by rw [show [(-1 : Int)] = List.replicate 1 (-1) from rfl, refShare_rep, if_neg (by omega)], List.append_nil]
  | some k =>
    refine ⟨rfl, by simp [h2], fun i => ?_⟩
    simp only
    rw [shOf_app, h3 i, refShare_app h2.symm]
    congr 1
    rw [show [((k : Nat) : Int)] = List.replicate 1 (k : Int) from rfl, refShare_rep]
    by_cases h : k = i
    · subst h; simp [shOf]
    · have : (k == i) = false := by simpa using h
      rw [if_neg (by omega)]
      simp [shOf, this]
theorem sh_round (ms : List Mem) (ts : List Top) (i : Nat) : shOf (roundA ms ts) i = refShare (slotsOf ts) (rrG ms (slotsOf ts)).2 i := (rrG_eq ms (slotsOf ts)).2.2 i
end Go.Proofs.YtkcgokkgefgcjaaGreatDoor.AS
end
section
namespace Go.Proofs.YtkcgokkgefgcjaaGreatDoor.AS
open Go.Proofs.YtkcgokkgefgcjaaGreatDoor.H Go.Proofs.YtkcgokkgefgcjaaGreatDoor.G0 Go.Proofs.YtkcgokkgefgcjaaGreatDoor.G1
set_option linter.unusedVariables false
set_option linter.unusedSimpArgs false
set_option maxRecDepth 100000
def slV (l : List Slot) : HV := accV 2 l.length (rows slC l)
def shE (d : By × List Slot) : List HV := [strV d.1, slV d.2]
theorem shE_len (d : By × List Slot) : (shE d).length = 2 := rfl
theorem slV_frz (l : List Slot) (p : Nat) (cs : List HV) : frz0 p cs (slV l) = slV l := by
  unfold slV accV
  split <;> rfl
theorem shE_frz (D : DD) (p : Nat) (cs : List HV) : (rows shE D).map (frz0 p cs) = rows shE D := by
  induction D with
  | nil => rfl
  | cons d D ih => rw [rows_cons, List.map_append, ih]; simp only [shE, List.map_cons, List.map_nil, slV_frz]; rfl
theorem shE_one (D : DD) : ∀ x ∈ rows shE D, hone x = true := rows_ones (fun d y hy => by
  simp only [shE, List.mem_cons, List.not_mem_nil, or_false] at hy
  rcases hy with rfl | rfl
  · rfl
  · unfold slV accV; split <;> rfl) D
theorem shC_frz {b t : HS} (L : List Sh) (p : Nat) (cs : List HV) (h : ∀ x ∈ L, Acc b t 2 x.row x.sl.length (rows slC x.sl)) (hp : ∀ x ∈ L, accId x.row ≠ some p) : (rows shC L).map (frz0 p cs) = rows shC L := by
  induction L with
  | nil => rfl
  | cons d D ih =>
    rw [rows_cons, List.map_append, ih (fun x hx => h x (List.mem_cons_of_mem _ hx)) (fun x hx => hp x (List.mem_cons_of_mem _ hx))]
    have h1 := h d List.mem_cons_self
    have h2 := hp d List.mem_cons_self
    have e : frz0 p cs d.row = d.row := by
      rcases h1 with ⟨e, -⟩ | ⟨q, f, -, e, -⟩
      · rw [e]; rfl
      · rw [e] at h2 ⊢
        have : ¬ q = p := fun e2 => h2 (by rw [e2]; rfl)
        simp [frz0, phi, this]
    simp only [shC, List.map_cons, List.map_nil, e]
    rfl
theorem shUp_aux {b : HS} {q : Nat} {xs : List HV} (hx : ∀ p cs, p ≠ q → xs.map (frz2 p cs) = xs) (hq : b q = none) : ∀ (post : List Sh) (pre : DD) (t : HS), HS.le b t → t q = some (.cells (rows shE pre ++ rows shC post)) →
    (∀ x ∈ post, Acc b t 2 x.row x.sl.length (rows slC x.sl)) → post.Pairwise (fun x y => accId x.row = none ∨ accId x.row ≠ accId y.row) → (∀ x ∈ post, accId x.row ≠ some q) →
    ∃ t', HS.le b t' ∧ t' q = some (.cells (rows shE (pre ++ post.map dOf))) ∧ UpL xs t xs t'
  | [], pre, t, hb, ht, ha, hp, hs => ⟨t, hb, by rw [ht]; simp [rows], UpL.refl _ _⟩
  | x :: post, pre, t, hb, ht, ha, hp, hs => by
    have hax := ha x List.mem_cons_self
    have hsx := hs x List.mem_cons_self
    rw [List.pairwise_cons] at hp
    have e1 : pre ++ (x :: post).map dOf = (pre ++ [dOf x]) ++ post.map dOf := by simp
    rcases hax with ⟨h1, h2, h3⟩ | ⟨p, f, h1, h2, h3, h4, h5⟩
    · have e2 : rows shE pre ++ rows shC (x :: post) = rows shE (pre ++ [dOf x]) ++ rows shC post := by
        have : x.sl = [] := List.eq_nil_of_length_eq_zero h3
        rw [rows_cons, rows_app, rows_one]
        simp [shE, shC, dOf, this, h1, slV, accV]
      rw [e1]
      exact shUp_aux hx hq post (pre ++ [dOf x]) t hb (by rw [← e2]; exact ht) (fun y hy => ha y (List.mem_cons_of_mem _ hy)) hp.2 (fun y hy => hs y (List.mem_cons_of_mem _ hy))
    · have hpq : p ≠ q := fun e => hsx (by rw [h2, e]; rfl)
      obtain ⟨t1, ht1⟩ : ∃ t1 : HS, t1 = fun k => if k = p then none else if k = q then some (.cells (rows shE (pre ++ [dOf x]) ++ rows shC post)) else t k := ⟨_, rfl⟩
      have hap : ∀ y ∈ post, accId y.row ≠ some p := fun y hy e => by
        rcases hp.1 y hy with h | h
        · rw [h2] at h; cases h
        · exact h (by rw [e, h2]; rfl)
      have hu : UpL xs t xs t1 := by
        have hu := UpL.frzG (xs := xs) (s' := t1) h3 fun k o hk => ?_
        · rw [hx p _ hpq] at hu; exact hu
        · rw [ht1] at hk
          simp only at hk
          split at hk
          · cases hk
          · rename_i hkp
            split at hk
            · rename_i hkq
              subst hkq
              cases hk
              refine ⟨hkp, _, ht, .inr ?_⟩
              simp only [frzO, List.map_append, shE_frz, rows_cons, rows_app, rows_one, List.append_assoc]
              rw [shC_frz post p _ (fun y hy => ha y (List.mem_cons_of_mem _ hy)) hap]
              have e5 : frz0 p (rows slC x.sl) x.row = slV x.sl := by
                rw [h2]
                simp only [frz0, phi, Nat.zero_add, h4, Nat.le_refl, and_self, if_true, Option.getD_some, List.drop_zero, slV, accV, h5, if_false]
                rw [List.take_of_length_le (by omega)]
              simp only [shC, List.map_cons, List.map_nil, e5]
              rfl
            · exact ⟨hkp, o, hk, .inl rfl⟩
      have hb1 : HS.le b t1 := fun k ob hk => by
        have hkp : k ≠ p := by rintro rfl; rw [h1] at hk; cases hk
        have hkq : k ≠ q := by rintro rfl; rw [hq] at hk; cases hk
        rw [ht1]
        simp only [if_neg hkp, if_neg hkq]
        exact hb k ob hk
      obtain ⟨t', g1, g2, g3⟩ := shUp_aux hx hq post (pre ++ [dOf x]) t1 hb1 (by rw [ht1]; simp [Ne.symm hpq]) (fun y hy => (ha y (List.mem_cons_of_mem _ hy)).keep fun k ob hk hk2 => by
        have hkp : k ≠ p := by rintro rfl; exact hap y hy hk
        have hkq : k ≠ q := by rintro rfl; exact hs y (List.mem_cons_of_mem _ hy) hk
        rw [ht1]
        simp only [if_neg hkp, if_neg hkq]
        exact hk2) hp.2 (fun y hy => hs y (List.mem_cons_of_mem _ hy))
      exact ⟨t', g1, by rw [e1]; exact g2, hu.trans g3⟩
theorem SharesP.up {b u : HS} {SH : HV} {D : DD} (h : SharesP b u SH D) (hb : HS.le b u) (X : HV → List HV) (hX : ∀ q n f p cs, (X (.view q 0 2 n f)).map (frz2 p cs) = X (frz0 p cs (.view q 0 2 n f))) :
    ∃ o : Option DD, o.getD [] = D ∧ UpL (X SH) u (X (rowV shE 2 o)) b := by
  rcases h with ⟨rfl, rfl⟩ | ⟨q, f, L, rfl, rfl, h3⟩
  · exact ⟨none, rfl, UpL.le _ hb⟩
  · have hpw : L.Pairwise (fun x y => accId x.row = none ∨ accId x.row ≠ accId y.row) := by
      rw [List.pairwise_iff_getElem]
      intro i j hi hj hij
      have := h3.apart i j hij hj
      rw [getD_get _ _ hi, getD_get _ _ hj] at this
      exact this
    obtain ⟨t', g1, g2, g3⟩ := shUp_aux (xs := X (.view q 0 2 (L.map dOf).length f)) (b := b) (q := q) (fun p cs hpq => by
      rw [hX]
      have : ¬ q = p := fun e => hpq e.symm
      simp [frz0, phi, this]) h3.free L [] u hb (by rw [h3.at_]; simp [rows]) h3.acc hpw h3.self
    refine ⟨some (L.map dOf), rfl, g3.trans ?_⟩
    have := UpL.frzD (xs := X (.view q 0 2 (L.map dOf).length f)) g2 g1 h3.free
    rw [hX] at this
    simp only [frz0, phi, Nat.zero_add, rows_len shE_len, List.nil_append, Nat.le_refl, and_self, if_true, Option.getD_some, List.drop_zero] at this
    rw [rows_all shE_len] at this
    exact this
end Go.Proofs.YtkcgokkgefgcjaaGreatDoor.AS
end
section
namespace Go.Proofs.YtkcgokkgefgcjaaGreatDoor.AS
open Go.Proofs.YtkcgokkgefgcjaaGreatDoor.H Go.Proofs.YtkcgokkgefgcjaaGreatDoor.G0 Go.Proofs.YtkcgokkgefgcjaaGreatDoor.G1
set_option linter.unusedVariables false
set_option linter.unusedSimpArgs false
set_option maxRecDepth 100000
section
variable {α : Type} (nm : α → By)
/-- Where a value goes in. -/
def insK (x : α) (out : List α) : Nat → Nat
  | 0 => 0
  | k + 1 => match out[k]? with
    | some y => if bl_ (nm x) (nm y) = true then insK x out k else k + 1
    | none => k + 1
def insA (x : α) (out : List α) : List α := out.take (insK nm x out out.length) ++ x :: out.drop (insK nm x out out.length)
def isort (l : List α) : List α := l.foldl (fun out x => insA nm x out) []
theorem isort_snoc (l : List α) (x : α) : isort nm (l ++ [x]) = insA nm x (isort nm l) := by simp [isort]
theorem insK_le (x : α) (out : List α) : ∀ k, insK nm x out k ≤ k
  | 0 => Nat.le_refl _
  | k + 1 => by
    simp only [insK]
    split
    · split
      · exact Nat.le_succ_of_le (insK_le x out k)
      · exact Nat.le_refl _
    · exact Nat.le_refl _
theorem insA_perm (x : α) (out : List α) : (insA nm x out).Perm (x :: out) := by
  unfold insA
  refine List.perm_middle.trans (List.Perm.cons x ?_)
  rw [List.take_append_drop]
theorem isort_perm (l : List α) : (isort nm l).Perm l := by
  refine snoc_ind (p := fun l => (isort nm l).Perm l) (List.Perm.refl _) ?_ l
  intro l x ih
  rw [isort_snoc]
  refine (insA_perm nm x _).trans ((List.Perm.cons x ih).trans ?_)
  exact (List.perm_append_singleton x l).symm
theorem insK_gt (x : α) (out : List α) : ∀ k, k ≤ out.length → (∀ j y, insK nm x out k ≤ j → j < k → out[j]? = some y → bl_ (nm x) (nm y) = true) ∧ (∀ y, insK nm x out k ≠ 0 → out[insK nm x out k - 1]? = some y → bl_ (nm x) (nm y) = false)
  | 0, _ => ⟨fun j y _ h => absurd h (Nat.not_lt_zero _), fun y h => absurd rfl h⟩
  | k + 1, hk => by
    have hlt : k < out.length := hk
    simp only [insK, List.getElem?_eq_getElem hlt]
    obtain ⟨h1, h2⟩ := insK_gt x out k (by omega)
    split
    · rename_i hb
      refine ⟨fun j y hj hjk hy => ?_, h2⟩
      rcases Nat.lt_succ_iff_lt_or_eq.1 hjk with h | rfl
      · exact h1 j y hj h hy
      · rw [List.getElem?_eq_getElem hlt] at hy; cases hy; exact hb
    · rename_i hb
      refine ⟨fun j y hj hjk hy => by omega, fun y _ hy => ?_⟩
      rw [Nat.add_sub_cancel, List.getElem?_eq_getElem hlt] at hy
      cases hy
      simpa using hb
theorem insA_sorted (x : α) (out : List α) (h : out.Pairwise fun a b => bl_ (nm b) (nm a) = false) : (insA nm x out).Pairwise fun a b => bl_ (nm b) (nm a) = false := by
  have hO := ordr_name nm
  obtain ⟨h1, h2⟩ := insK_gt nm x out out.length (Nat.le_refl _)
  have hle := insK_le nm x out out.length
  unfold insA
  generalize insK nm x out out.length = k at *
  rw [List.pairwise_append, List.pairwise_cons]
  have hd : ∀ y ∈ out.drop k, bl_ (nm x) (nm y) = true := fun y hy => by
    obtain ⟨j, hj, rfl⟩ := List.mem_iff_getElem.1 hy
    rw [List.getElem_drop]
    have : k + j < out.length := by simp at hj; omega
    exact h1 (k + j) _ (by omega) this (List.getElem?_eq_getElem this)
  have hx : ∀ y ∈ out.take k, bl_ (nm x) (nm y) = false := fun y hy => by
    obtain ⟨j, hj, rfl⟩ := List.mem_iff_getElem.1 hy
    rw [List.getElem_take]
    have hjk : j < k := by simp at hj; omega
    have hk1 : k - 1 < out.length := by omega
    have h3 := h2 _ (by omega) (List.getElem?_eq_getElem hk1)
    by_cases hj1 : j = k - 1
    · subst hj1; exact h3
    · have h4 := List.pairwise_iff_getElem.1 h j (k - 1) (by omega) hk1 (by omega)
      exact hO.2 _ _ _ h4 h3
  refine ⟨h.sublist (List.take_sublist _ _), ⟨fun y hy => bl_asymm (hd y hy), h.sublist (List.drop_sublist _ _)⟩, fun a ha b hb => ?_⟩
  rcases List.mem_cons.1 hb with rfl | hb
  · exact hx a ha
  · cases e : bl_ (nm b) (nm a) with
    | false => rfl
    | true =>
      have := bl_trans _ _ _ (hd b hb) e
      rw [hx a ha] at this; cases this
theorem isort_sorted (l : List α) : (isort nm l).Pairwise fun a b => bl_ (nm b) (nm a) = false := by
  refine snoc_ind (p := fun l => (isort nm l).Pairwise fun a b => bl_ (nm b) (nm a) = false) List.Pairwise.nil ?_ l
  intro l x ih
  rw [isort_snoc]
  exact insA_sorted nm x _ ih
theorem isort_len (l : List α) : (isort nm l).length = l.length := (isort_perm nm l).length_eq
end
abbrev isM (l : List Mem) : List Mem := isort Mem.id l
abbrev isT (l : List Top) : List Top := isort Top.name l
/-- The shares. -/
def shD (rg : List Mem → List Top → List (Nat × Slot)) (l : List Mem) (tl : List Top) : DD := giveA ((isM l).map fun m => (m.id, [])) (rg (isM l) (isT tl))
theorem postU {rg : List Mem → List Top → List (Nat × Slot)} {l : List Mem} {tl : List Top} {s u : HS} {v : HV} (h : postRange rg l tl s v u) :
    ∃ v' u', UpL [v] u [v'] u' ∧ u' = s ∧ ((¬ okA l tl ∧ v' = .tup [nilV, .lit (.int .i64 1)]) ∨ (okA l tl ∧ ∃ o : Option DD, o.getD [] = shD rg l tl ∧ v' = .tup [rowV shE 2 o, .lit (.int .i64 0)])) := by
  obtain ⟨hle, h⟩ := h
  rcases h with ⟨h1, rfl⟩ | ⟨h1, ms, ts, SH, pm, pt, sm, st, rfl, hP⟩
  · exact ⟨_, s, UpL.le _ hle, rfl, .inl ⟨h1, rfl⟩⟩
  · obtain ⟨o, ho, hu⟩ := hP.up hle (fun v => [.tup [v, .lit (.int .i64 0)]]) (fun q n f p cs => rfl)
    refine ⟨_, s, hu, rfl, .inr ⟨h1, o, ?_, rfl⟩⟩
    have e1 : isM l = ms := sorted_is Mem.id ((isort_perm Mem.id l).trans pm.symm) (isort_sorted Mem.id l) sm
    have e2 : isT tl = ts := sorted_is Top.name ((isort_perm Top.name tl).trans pt.symm) (isort_sorted Top.name tl) st
    rw [ho, shD, e1, e2]
theorem range13U {s : HS} {A B : HV} {l : List Mem} {tl : List Top} (hA : RowV s 2 A l.length (rows memC l)) (hB : RowV s 2 B tl.length (rows topC tl)) (hl : l.length ≤ 1000000) (htl : tl.length ≤ 1000000) (htp : ∀ m ∈ l, (m.tp.getD []).length ≤ 1000000000) :
    HC Tryz.prog 69 [A, B] s (fun v u => u = s ∧ ((¬ okA l tl ∧ v = .tup [nilV, .lit (.int .i64 1)]) ∨ (okA l tl ∧ ∃ o : Option DD, o.getD [] = shD rangeA l tl ∧ v = .tup [rowV shE 2 o, .lit (.int .i64 0)]))) :=
  HC.up ((range13 hA hB hl htl htp).mono fun v u h => postU h)
theorem round10U {s : HS} {A B : HV} {l : List Mem} {tl : List Top} (hA : RowV s 2 A l.length (rows memC l)) (hB : RowV s 2 B tl.length (rows topC tl)) (hl : l.length ≤ 1000000) (htl : tl.length ≤ 1000000) (htp : ∀ m ∈ l, (m.tp.getD []).length ≤ 1000000000) :
    HC Tryz.prog 68 [A, B] s (fun v u => u = s ∧ ((¬ okA l tl ∧ v = .tup [nilV, .lit (.int .i64 1)]) ∨ (okA l tl ∧ ∃ o : Option DD, o.getD [] = shD roundA l tl ∧ v = .tup [rowV shE 2 o, .lit (.int .i64 0)]))) :=
  HC.up ((round10 hA hB hl htl htp).mono fun v u h => postU h)
theorem idx_rowV {α : Type} {enc : α → List HV} {sz : Nat} (h : ∀ x, (enc x).length = sz) (z : α) (o : Option (List α)) {i : Nat} (hi : i < (o.getD []).length) : vIdx sz (rowV enc sz o) (.lit (.int .i64 (i : Int))) = some (.elt (enc ((o.getD []).getD i z)) 0) := by
  cases o with
  | none => simp at hi
  | some l => exact idx_rowL h z l .i64 hi
theorem neq_n (a b : Nat) : vCmp (Tryz.prog.underlying 3) .neq (.lit (.int .i64 (a : Int))) (.lit (.int .i64 (b : Int))) = some (.lit (.bool (!decide (a = b)))) := by
  simp only [vCmp, vBin, if_true, Option.some.injEq, HV.lit.injEq, Value.bool.injEq, bne]
  congr 1
  rw [Bool.eq_iff_iff]
  simp only [beq_iff_eq, decide_eq_true_eq]
  omega
theorem eql_s (a b : By) : vCmp (Tryz.prog.underlying 9) .eql (strV a) (strV b) = some (.lit (.bool (decide (a = b)))) := by
  simp only [vCmp, vBin, strV, toL, Option.some.injEq, HV.lit.injEq, Value.bool.injEq]
  rw [Bool.eq_iff_iff]
  simp
theorem neq_s (a b : By) : vCmp (Tryz.prog.underlying 9) .neq (strV a) (strV b) = some (.lit (.bool (!decide (a = b)))) := by
  simp only [vCmp, vBin, strV, toL, Option.some.injEq, HV.lit.injEq, Value.bool.injEq]
  congr 1
  rw [Bool.eq_iff_iff]
  simp
theorem neq_sl (x y : Slot) : vCmpS [.string, .int .i64] .neq (.agg (slC x)) (.agg (slC y)) = some (.lit (.bool (!decide (x = y)))) := by
  obtain ⟨a, b⟩ := x
  obtain ⟨c, d⟩ := y
  simp only [vCmpS, flatCells, slC, flatEq, flatEq1, strV, toL, if_true, Option.map_some, Option.some.injEq, HV.lit.injEq, Value.bool.injEq, Bool.and_true]
  congr 1
  rw [Bool.eq_iff_iff]
  simp
theorem inc_i {i n : Nat} (hi : i < n) (hn : n ≤ 9223372036854775807) : vBin .add (.lit (.int .i64 (i : Int))) (.lit (.int .i64 1)) = some (.lit (.int .i64 ((i + 1 : Nat) : Int))) := by
  rw [wlit1, add_i (by omega)]
/-- The document's SameSlots. -/
theorem same20 (oa ob : Option (List Slot)) (s : HS) (hl : (oa.getD []).length ≤ 9223372036854775807) : HC Tryz.prog 19 [rowV slC 2 oa, rowV slC 2 ob] s (fun v s' => s' = s ∧ v = .lit (.bool (decide (oa.getD [] = ob.getD [])))) := by
  refine HC19 ?_
  unfold c19
  have l1 : ∀ (o : Option (List Slot)) (t : HS), vLenT (Tryz.prog.underlying 46) t (rowV slC 2 o) = some (.lit (.int .i64 (((o.getD []).length : Nat) : Int))) := fun o t => len_rowV o t
  simp only [l1, bindO, neq_n]
  have i1 := fun i hi => idx_rowV slC_len ([], 0) oa (i := i) hi
  have i2 := fun i hi => idx_rowV slC_len ([], 0) ob (i := i) hi
  generalize oa.getD [] = a at *
  generalize ob.getD [] = b at *
  by_cases hlen : a.length = b.length
  · simp only [hlen, decide_true, Bool.not_true, hcond]
    refine HLoop.ghost (σ := Nat) (fun i => [.lit (.int .i64 (i : Int))]) (fun i t => i ≤ a.length ∧ t = s ∧ a.take i = b.take i) (fun i => a.length - i) 0 rfl ⟨Nat.zero_le _, rfl, by simp⟩ ?_
    rintro i t K ⟨h1, rfl, h2⟩ hK
    simp only [List.headD_cons, lss_i, ← hlen]
    by_cases hlt : i < a.length
    · simp only [hlt, decide_true, i1 i hlt, i2 i (by omega)]
      rw [load_elt _ _ _ (slC_len _), load_elt _ _ _ (slC_len _)]
      simp only [neq_sl]
      have ht := take_succ' ([], 0) a hlt
      have ht2 := take_succ' ([], 0) b (show i < b.length by omega)
      by_cases he : a.getD i ([], 0) = b.getD i ([], 0)
      · simp only [he, decide_true, Bool.not_true, inc_i hlt hl]
        exact hK (i + 1) _ _ rfl ⟨hlt, rfl, by rw [ht, ht2, h2, he]⟩ (by omega)
      · simp only [he, decide_false, Bool.not_false]
        refine ⟨trivial, ?_⟩
        have : ¬ a = b := fun e => he (by rw [e])
        simp [this]
    · obtain rfl : i = a.length := by omega
      simp only [hlt, decide_false]
      rw [List.take_length, hlen, List.take_length] at h2
      simp [h2]
  · simp only [hlen, decide_false, Bool.not_false, hcond]
    have : ¬ a = b := fun e => hlen (by rw [e])
    simp [this]
theorem slV_row (l : List Slot) : ∃ o : Option (List Slot), slV l = rowV slC 2 o ∧ o.getD [] = l := by
  cases l with
  | nil => exact ⟨none, rfl, rfl⟩
  | cons x l => exact ⟨some (x :: l), by simp [slV, accV, rowV, rowL], rfl⟩
/-- The document's SameShares. -/
theorem same14 (oa ob : Option DD) (s : HS) (hl : (oa.getD []).length ≤ 9223372036854775807) (hs : ∀ d ∈ oa.getD [], d.2.length ≤ 9223372036854775807) : HC Tryz.prog 33 [rowV shE 2 oa, rowV shE 2 ob] s (fun v s' => s' = s ∧ v = .lit (.bool (decide (oa.getD [] = ob.getD [])))) := by
  refine HC33 ?_
  unfold c33
  have l1 : ∀ (o : Option DD) (t : HS), vLenT (Tryz.prog.underlying 52) t (rowV shE 2 o) = some (.lit (.int .i64 (((o.getD []).length : Nat) : Int))) := fun o t => len_rowV o t
  simp only [l1, bindO, neq_n]
  have i1 := fun i hi => idx_rowV shE_len d0 oa (i := i) hi
  have i2 := fun i hi => idx_rowV shE_len d0 ob (i := i) hi
  generalize oa.getD [] = a at *
  generalize ob.getD [] = b at *
  by_cases hlen : a.length = b.length
  · simp only [hlen, decide_true, Bool.not_true, hcond]
    refine HLoop.ghost (σ := Nat) (fun i => [.lit (.int .i64 (i : Int))]) (fun i t => i ≤ a.length ∧ t = s ∧ a.take i = b.take i) (fun i => a.length - i) 0 rfl ⟨Nat.zero_le _, rfl, by simp⟩ ?_
    rintro i t K ⟨h1, rfl, h2⟩ hK
    simp only [List.headD_cons, lss_i, ← hlen]
    by_cases hlt : i < a.length
    · have ht := take_succ' d0 a hlt
      have ht2 := take_succ' d0 b (show i < b.length by omega)
      have hm := hs (a.getD i d0) (by rw [getD_get _ _ hlt]; exact List.getElem_mem hlt)
      simp only [hlt, decide_true, i1 i hlt, i2 i (by omega), vField]
      generalize a.getD i d0 = x at *
      generalize b.getD i d0 = y at *
      have lw : ∀ (d : By × List Slot) (u : HS), vLoad u (.elt (shE d) (0 + 0)) 1 false = some (strV d.1) := fun _ _ => rfl
      have ls : ∀ (d : By × List Slot) (u : HS), vLoad u (.elt (shE d) (0 + 1)) 1 false = some (slV d.2) := fun _ _ => rfl
      simp only [lw, ls, neq_s]
      refine Join.of (fun xs u => u = t ∧ xs = [.lit (.bool (!decide (x = y)))]) ?_ ?_
      · rintro _ u ⟨rfl, rfl⟩
        simp only [List.headD_cons]
        by_cases he : x = y
        · simp only [he, decide_true, Bool.not_true, inc_i hlt hl]
          exact hK (i + 1) _ _ rfl ⟨hlt, rfl, by rw [ht, ht2, h2, he]⟩ (by omega)
        · simp only [he, decide_false, Bool.not_false]
          refine ⟨trivial, ?_⟩
          have : ¬ a = b := fun e => he (by
            have e1 : a.take (i + 1) = b.take (i + 1) := by rw [e]
            rw [ht, ht2, h2] at e1
            simpa using e1)
          simp [this]
      · intro K9 hK9
        by_cases hw : x.1 = y.1
        · simp only [hw, decide_true, Bool.not_true]
          obtain ⟨o1, e1, e2⟩ := slV_row x.2
          obtain ⟨o2, e3, e4⟩ := slV_row y.2
          rw [e1, e3]
          refine (same20 o1 o2 t (by rw [e2]; exact hm)).mono ?_
          rintro v u ⟨rfl, rfl⟩
          simp only [vUn]
          refine hK9 _ _ ⟨rfl, ?_⟩
          rw [e2, e4]
          congr 4
          obtain ⟨x1, x2⟩ := x
          obtain ⟨y1, y2⟩ := y
          simp only at hw
          simp [hw]
        · simp only [hw, decide_false, Bool.not_false]
          refine hK9 _ _ ⟨rfl, ?_⟩
          have : ¬ x = y := fun e => hw (by rw [e])
          simp [this]
    · obtain rfl : i = a.length := by omega
      simp only [hlt, decide_false]
      rw [List.take_length, hlen, List.take_length] at h2
      simp [h2]
  · simp only [hlen, decide_false, Bool.not_false, hcond]
    have : ¬ a = b := fun e => hlen (by rw [e])
    simp [this]
end Go.Proofs.YtkcgokkgefgcjaaGreatDoor.AS
end
section
namespace Go.Proofs.YtkcgokkgefgcjaaGreatDoor.AS
open Go.Proofs.YtkcgokkgefgcjaaGreatDoor.H Go.Proofs.YtkcgokkgefgcjaaGreatDoor.G0 Go.Proofs.YtkcgokkgefgcjaaGreatDoor.G1
set_option linter.unusedVariables false
set_option linter.unusedSimpArgs false
set_option maxRecDepth 100000
theorem hBS_in {s : HS} {sz n : Nat} {zs cs : List HV} {parts : List (Nat × HV)} {K : HV → HS → Prop} (hf : hfill (fun i => some (i * sz, sz)) zs parts = some cs) (h : ∀ id, s id = none → K (.view id 0 sz n true) (s.set id (.cells cs))) : hBS s sz n zs parts K := by
  unfold hBS
  rw [hf]
  exact h
theorem gtr_n (a b : Int) : vBin .gtr (.lit (.int .i64 a)) (.lit (.int .i64 b)) = some (.lit (.bool (decide (b < a)))) := rfl
theorem lss_n (a b : Int) : vBin .lss (.lit (.int .i64 a)) (.lit (.int .i64 b)) = some (.lit (.bool (decide (a < b)))) := rfl
theorem leq_n (a b : Int) : vBin .leq (.lit (.int .i64 a)) (.lit (.int .i64 b)) = some (.lit (.bool (decide (a ≤ b)))) := rfl
theorem geq_n (a b : Int) : vBin .geq (.lit (.int .i64 a)) (.lit (.int .i64 b)) = some (.lit (.bool (decide (b ≤ a)))) := rfl
theorem add_n {a b : Int} (h : -9223372036854775808 ≤ a + b) (h' : a + b < 9223372036854775808) : vBin .add (.lit (.int .i64 a)) (.lit (.int .i64 b)) = some (.lit (.int .i64 (a + b))) := by
  simp only [vBin, if_true, w64 h h']
theorem sub_n {a b : Int} (h : -9223372036854775808 ≤ a - b) (h' : a - b < 9223372036854775808) : vBin .sub (.lit (.int .i64 a)) (.lit (.int .i64 b)) = some (.lit (.int .i64 (a - b))) := by
  simp only [vBin, if_true, w64 h h']
/-- What the statement looks at. -/
structure Small (l : List Mem) (t : List Top) : Prop where
  nl : l.length ≤ 1000
  tp : ∀ m ∈ l, (m.tp.getD []).length ≤ 1000
  nt : t.length ≤ 1000
  parts : ∀ x ∈ t, x.parts ≤ 60 ∨ 1000 < x.parts
structure InSize (l : List Mem) (t : List Top) : Prop where
  nl : l.length ≤ 9223372036854775807
  ids : ∀ m ∈ l, m.id.length ≤ 9223372036854775807
  tp : ∀ m ∈ l, (m.tp.getD []).length ≤ 9223372036854775807 ∧ ∀ x ∈ m.tp.getD [], x.length ≤ 9223372036854775807
  nt : t.length ≤ 9223372036854775807
  name : ∀ x ∈ t, x.name.length ≤ 9223372036854775807
theorem len_tp (o : Option (List By)) (s : HS) : vLenT (Tryz.prog.underlying 33) s (rowV strC 1 o) = some (.lit (.int .i64 (((o.getD []).length : Nat) : Int))) := len_rowV o s
theorem getD_memD {α : Type} (z : α) {l : List α} {i : Nat} (h : i < l.length) : l.getD i z ∈ l := by rw [getD_get _ _ h]; exact List.getElem_mem h
end Go.Proofs.YtkcgokkgefgcjaaGreatDoor.AS
end
section
namespace Go.Proofs.YtkcgokkgefgcjaaGreatDoor.AS
open Go.Proofs.YtkcgokkgefgcjaaGreatDoor.H Go.Proofs.YtkcgokkgefgcjaaGreatDoor.G0 Go.Proofs.YtkcgokkgefgcjaaGreatDoor.G1
set_option linter.unusedVariables false
set_option linter.unusedSimpArgs false
set_option maxRecDepth 100000
theorem has16 (o : Option (List By)) (k : By) (s : HS) (hl : (o.getD []).length ≤ 9223372036854775807) : HC Tryz.prog 87 [rowV strC 1 o, strV k] s (fun v s' => s' = s ∧ v = .lit (.bool (decide (k ∈ o.getD [])))) := by
  refine HC87 ?_
  unfold c87
  have i1 := fun i hi => idx_rowV (enc := strC) (sz := 1) (fun _ => rfl) [] o (i := i) hi
  refine HLoop.ghost (σ := Nat) (fun i => [.lit (.int .i64 (i : Int))]) (fun i t => i ≤ (o.getD []).length ∧ t = s ∧ k ∉ (o.getD []).take i) (fun i => (o.getD []).length - i) 0 rfl ⟨Nat.zero_le _, rfl, by simp⟩ ?_
  rintro i t K ⟨h1, rfl, h2⟩ hK
  simp only [List.headD_cons, len_tp, bindO, lss_i]
  by_cases hi : i < (o.getD []).length
  · have hts := take_succ' [] (o.getD []) hi
    have hm := getD_memD [] hi
    simp only [hi, decide_true, hcond, i1 i hi]
    generalize (o.getD []).getD i [] = x at *
    rw [show vLoad t (.elt (strC x) 0) 1 false = some (strV x) from rfl]
    simp only [eql_s]
    by_cases he : x = k
    · subst he
      simp only [decide_true]
      exact ⟨trivial, by simp [hm]⟩
    · simp only [he, decide_false, inc_i hi hl]
      refine hK (i + 1) _ _ rfl ⟨hi, rfl, ?_⟩ (by omega)
      rw [hts]
      intro hh
      rcases List.mem_append.1 hh with hh | hh
      · exact h2 hh
      · exact he (List.mem_singleton.1 hh).symm
  · obtain rfl : i = (o.getD []).length := by omega
    rw [List.take_length] at h2
    simp only [hi, decide_false, hcond]
    exact ⟨trivial, by simp [h2]⟩
theorem clone35 (o : Option (List Slot)) (s : HS) (hl : (o.getD []).length ≤ 1000000000) : HC Tryz.prog 61 [rowV slC 2 o] s (fun v t => ∃ o' : Option (List Slot), UpL [v] t [rowV slC 2 o'] s ∧ o'.getD [] = o.getD []) := by
  cases o with
  | none =>
    refine HC61 ?_
    unfold c61
    exact ⟨none, UpL.refl _ _, rfl⟩
  | some l =>
    have hgo : HC Tryz.prog 61 [.ne 2] s (fun v t => l = [] → ∃ o' : Option (List Slot), UpL [v] t [rowV slC 2 o'] s ∧ o'.getD [] = []) := by
      refine HC61 ?_
      unfold c61
      rw [show vCmp (Tryz.prog.underlying 46) .eql (.ne 2) (.lit (.slice none 0 0)) = some (.lit (.bool false)) from rfl]
      simp only [bindO, hcond]
      refine hBS0 fun id hid => ?_
      refine app_empty (b := s) (le_set_new _ (le_refl' s) hid) hid (set_at _ _ _) (x := .ne 2) (xs := []) (k := 0) rfl rfl rfl ⟨by omega, by omega⟩ fun A' t' k1 k2 _ => ⟨some [], acc0_upL k1 k2, rfl⟩
    cases l with
    | nil =>
      refine HC.nilOr (pre := []) (post := []) ?_ ?_
      · refine HC61 ?_
        unfold c61
        exact ⟨some [], UpL.trans (up_lit_nil 2 (le_refl' s)) (UpL.refl _ _), rfl⟩
      · exact hgo.mono fun v t h => h rfl
    | cons x l =>
      refine HC61 ?_
      unfold c61
      rw [show vCmp (Tryz.prog.underlying 46) .eql (rowV slC 2 (some (x :: l))) (.lit (.slice none 0 0)) = some (.lit (.bool false)) from rfl]
      simp only [bindO, hcond]
      refine hBS0 fun id hid => ?_
      simp only [Option.getD_some] at hl
      refine app_empty (b := s) (le_set_new _ (le_refl' s) hid) hid (set_at _ _ _) (x := rowV slC 2 (some (x :: l))) (xs := rows slC (x :: l)) (k := (x :: l).length) (lcells_rowL _ _) rfl (rows_len slC_len _) ⟨by omega, by omega⟩ fun A' t' k1 k2 => ⟨some (x :: l), acc0_upL k1 k2, rfl⟩
def ofD (D : DD) (k : By) : List Slot := match D.find? (fun d => d.1 == k) with
  | some d => d.2
  | none => []
theorem shE_l0 (s : HS) (d : By × List Slot) : vLoad s (.elt (shE d) 0) 2 true = some (.agg (shE d)) := rfl
theorem find_none_take {α : Type} {p : α → Bool} {l : List α} {i : Nat} (z : α) (hi : i < l.length) (h : ∀ x ∈ l.take i, p x = false) (ht : p (l.getD i z) = true) : l.find? p = some (l.getD i z) := by
  have e : l.find? p = (l.take i ++ l.drop i).find? p := by rw [List.take_append_drop]
  rw [e, List.find?_append, List.find?_eq_none.2 fun x hx => by rw [h x hx]; simp]
  rw [drop_cons' z l hi, List.find?_cons, ht]
  rfl
theorem of21 (o : Option DD) (k : By) (s : HS) (hl : (o.getD []).length ≤ 1000000000) (hs : ∀ d ∈ o.getD [], d.2.length ≤ 1000000000) : HC Tryz.prog 45 [rowV shE 2 o, strV k] s (fun v s' => s' = s ∧ ∃ o' : Option (List Slot), v = rowV slC 2 o' ∧ o'.getD [] = ofD (o.getD []) k) := by
  refine HC.up (HC45 ?_)
  unfold c45
  have i1 := fun i hi => idx_rowV shE_len d0 o (i := i) hi
  rw [show vLenT (Tryz.prog.underlying 52) s (rowV shE 2 o) = some (.lit (.int .i64 (((o.getD []).length : Nat) : Int))) from len_rowV o s]
  simp only [bindO]
  generalize o.getD [] = D at *
  refine HLoop.ghost (σ := Nat) (fun i => [.lit (.int .i64 (i : Int))]) (fun i t => i ≤ D.length ∧ HS.le s t ∧ ∀ d ∈ D.take i, (d.1 == k) = false) (fun i => D.length - i) 0 rfl ⟨Nat.zero_le _, le_refl' s, by simp⟩ ?_
  rintro i t K ⟨h1, h2, h3⟩ hK
  simp only [List.headD_cons, lss_i]
  by_cases hi : i < D.length
  · have hts := take_succ' d0 D hi
    have hm := hs _ (getD_memD d0 hi)
    have hf := fun h => find_none_take (p := fun d => d.1 == k) d0 hi h3 h
    simp only [hi, decide_true, hcond, i1 i hi, shE_l0]
    generalize D.getD i d0 = d at *
    refine new_store rfl rfl (fun x hx => shE_one [d] x (by rw [rows_one]; exact hx)) fun X hX => ?_
    have l1 : vLoad (t.set X (.cells (shE d))) (.ptr X (0 + 0)) 1 false = some (strV d.1) := load_cell 0 1 (set_at _ _ _)
    have l2 : vLoad (t.set X (.cells (shE d))) (.ptr X (0 + 1)) 1 false = some (slV d.2) := load_cell 1 1 (set_at _ _ _)
    have hle := le_set_new (.cells (shE d)) h2 hX
    simp only [vField, l1, l2, eql_s]
    by_cases he : d.1 = k
    · simp only [he, decide_true]
      obtain ⟨o', e1, e2⟩ := slV_row d.2
      rw [e1]
      refine (clone35 o' _ (by rw [e2]; exact hm)).mono ?_
      rintro v u ⟨o2, g1, g2⟩
      refine ⟨_, _, g1.trans (UpL.le _ hle), rfl, o2, rfl, ?_⟩
      rw [g2, e2, ofD, hf (by simp [he])]
    · simp only [he, decide_false, inc_i hi (by omega)]
      refine hK (i + 1) _ _ rfl ⟨hi, hle, fun x hx => ?_⟩ (by omega)
      rw [hts] at hx
      rcases List.mem_append.1 hx with hx | hx
      · exact h3 x hx
      · rw [List.mem_singleton.1 hx]; simpa using he
  · obtain rfl : i = D.length := by omega
    rw [List.take_length] at h3
    simp only [hi, decide_false, hcond]
    refine ⟨_, s, UpL.le _ h2, rfl, none, rfl, ?_⟩
    rw [ofD, List.find?_eq_none.2 fun x hx => by rw [h3 x hx]; simp]
    rfl
/-- A number's digits. -/
def decL (n : Nat) : By := if h : n < 10 then [UInt8.ofNat (48 + n)] else decL (n / 10) ++ [UInt8.ofNat (48 + n % 10)]
termination_by n
decreasing_by omega
theorem decL_small {n : Nat} (h : n < 10) : decL n = [UInt8.ofNat (48 + n)] := by rw [decL, dif_pos h]
theorem decL_big {n : Nat} (h : ¬ n < 10) : decL n = decL (n / 10) ++ [UInt8.ofNat (48 + n % 10)] := by rw [decL, dif_neg h]
theorem decL_len : ∀ (k n : Nat), n < 10 ^ (k + 1) → (decL n).length ≤ k + 1
  | 0, n, h => by rw [decL_small (by simpa using h)]; simp
  | k + 1, n, h => by
    by_cases hn : n < 10
    · rw [decL_small hn]; simp
    · rw [decL_big hn, List.length_append, List.length_singleton]
      have := decL_len k (n / 10) (by rw [Nat.pow_succ] at h; omega)
      omega
def u8V (l : By) : List HV := l.map fun c => .lit (.int .u8 (c.toNat : Int))
theorem bytesOf_u8V : ∀ l : By, bytesOf (u8V l) = some l
  | [] => rfl
  | c :: l => by
    have := bytesOf_u8V l
    unfold bytesOf at this ⊢
    simp only [u8V, List.map_cons] at this ⊢
    rw [List.mapM_cons]
    simp only [byteOfHV]
    rw [this]
    simp
theorem add_s {a b : By} (h : a.length + b.length ≤ 9223372036854775807) : vBin .add (strV a) (strV b) = some (strV (a ++ b)) := by
  have h1 : ¬ ((((⟨a.toArray⟩ : ByteArray).size + (⟨b.toArray⟩ : ByteArray).size : Nat) : Int) > IntKind.i64.max) := by
    show ¬ (((a.toArray.size + b.toArray.size : Nat) : Int) > 9223372036854775807)
    simp only [List.size_toArray]
    omega
  simp only [strV, vBin, if_neg h1]
  congr 3
theorem u64w {x : Int} (h : 0 ≤ x) (h' : x < 18446744073709551616) : IntKind.u64.wrap x = x := by rw [IntKind.wrap_u64]; omega
theorem u8w {x : Int} (h : 0 ≤ x) (h' : x < 256) : IntKind.u8.wrap x = x := by rw [IntKind.wrap_u8]; omega
theorem dec17 {n : Nat} (hn : n < 1000000000000000000) (s : HS) : HC Tryz.prog 49 [.lit (.int .i64 (n : Int))] s (fun v s' => s' = s ∧ v = strV (decL n)) := by
  refine HC.weaken (HC49 ?_)
  unfold c49
  rw [show vToInt .u64 (.lit (.int .i64 (n : Int))) = some (.lit (.int .u64 (n : Int))) by simp only [vToInt, u64w (show (0 : Int) ≤ n by omega) (by omega)]]
  simp only [bindO, lss_n, show ¬ ((n : Int) < 0) by omega, decide_false, hcond]
  refine Join.of (fun xs t => t = s ∧ xs = [.lit (.int .u64 (n : Int)), strV []]) ?_ (fun K hK => hK _ _ ⟨rfl, rfl⟩)
  rintro _ t ⟨rfl, rfl⟩
  simp only [List.headD_cons, List.tail_cons]
  have hlen := decL_len 17 n (by omega)
  refine HLoop.ghost (σ := Nat × HV × By) (fun g => [.lit (.int .u64 (g.1 : Int)), g.2.1]) (fun g u => HS.le t u ∧ g.1 ≤ n ∧ Acc t u 1 g.2.1 g.2.2.length (u8V g.2.2) ∧ ((g.2.2 = [] ∧ g.1 = n) ∨ (g.2.2 ≠ [] ∧ (if g.1 = 0 then g.2.2 = decL n else decL g.1 ++ g.2.2 = decL n)))) (fun g => 2 * g.1 + if g.2.2 = [] then 1 else 0) (n, nilV, []) rfl ⟨le_refl' t, Nat.le_refl _, Acc.nil _ _ _, .inl ⟨rfl, rfl⟩⟩ ?_
  rintro ⟨u, B, b⟩ w K ⟨h1, h2, h3, h4⟩ hK
  simp only at h2 h3 h4
  simp only [List.headD_cons, List.tail_cons]
  refine Join.of (fun xs u' => u' = w ∧ xs = [.lit (.bool (decide (0 < u) || decide (b = [])))]) ?_ ?_
  rotate_left
  · intro K10 hK10
    rw [show vBin .gtr (.lit (.int .u64 (u : Int))) (.lit (.int .u64 0)) = some (.lit (.bool (decide ((0 : Int) < u)))) from rfl]
    simp only
    by_cases hu : 0 < u
    · simp only [show (0 : Int) < u from by omega, decide_true]
      exact hK10 _ _ ⟨rfl, by simp [hu]⟩
    · simp only [show ¬ (0 : Int) < u from by omega, decide_false]
      rw [show vLenT (Tryz.prog.underlying 110) w B = some (.lit (.int .i64 ((b.length : Nat) : Int))) from h3.len _ _]
      simp only
      rw [show vCmp (Tryz.prog.underlying 3) .eql (.lit (.int .i64 ((b.length : Nat) : Int))) (.lit (.int .i64 0)) = some (.lit (.bool (decide (b = [])))) by
        simp only [vCmp, vBin, if_true, Option.some.injEq, HV.lit.injEq, Value.bool.injEq]
        rw [Bool.eq_iff_iff]
        simp only [beq_iff_eq, decide_eq_true_eq]
        rw [← List.length_eq_zero_iff]
        omega]
      simp only
      exact hK10 _ _ ⟨rfl, by simp [hu]⟩
  rintro _ u' ⟨rfl, rfl⟩
  simp only [List.headD_cons]
  cases hc : decide (0 < u) || decide (b = []) with
  | true =>
    have e1 : vBin .rem (.lit (.int .u64 (u : Int))) (.lit (.int .u64 10)) = some (.lit (.int .u64 ((u % 10 : Nat) : Int))) := by
      have h2 : (u : Int).tmod ((10 : Nat) : Int) = ((u % 10 : Nat) : Int) := (Int.ofNat_tmod u 10).symm
      simp only [vBin, if_true]
      rw [if_neg (by omega)]
      exact congrArg (fun z => some (HV.lit (.int .u64 z))) h2
    have e2 : vBin .add (.lit (.int .u64 48)) (.lit (.int .u64 ((u % 10 : Nat) : Int))) = some (.lit (.int .u64 ((48 + u % 10 : Nat) : Int))) := by
      simp only [vBin, if_true]
      rw [u64w (by omega) (by omega)]
      congr 3
    have e3 : vToInt .u8 (.lit (.int .u64 ((48 + u % 10 : Nat) : Int))) = some (.lit (.int .u8 ((48 + u % 10 : Nat) : Int))) := by
      simp only [vToInt]
      rw [u8w (by omega) (by omega)]
    have e4 : vBin .quo (.lit (.int .u64 (u : Int))) (.lit (.int .u64 10)) = some (.lit (.int .u64 ((u / 10 : Nat) : Int))) := by
      have h2 : (u : Int).tdiv ((10 : Nat) : Int) = ((u / 10 : Nat) : Int) := (Int.ofNat_tdiv u 10).symm
      simp only [vBin, if_true]
      rw [if_neg (by omega)]
      have h3 : IntKind.u64.wrap ((u : Int).tdiv 10) = ((u / 10 : Nat) : Int) := by
        rw [show ((u : Int).tdiv 10) = ((u / 10 : Nat) : Int) from h2, u64w (by omega) (by omega)]
      rw [h3]
    simp only [e1, e2, e3]
    refine hBS_in (cs := [.lit (.int .u8 ((48 + u % 10 : Nat) : Int))]) rfl fun id hid => ?_
    have hA : Acc t (u'.set id (.cells [.lit (.int .u8 ((48 + u % 10 : Nat) : Int))])) 1 (.view id 0 1 1 true) 1 [.lit (.int .u8 ((48 + u % 10 : Nat) : Int))] := .inr ⟨id, true, none_of_le h1 hid, rfl, set_at _ _ _, rfl, by omega⟩
    have hle := le_set_new (.cells [.lit (.int .u8 ((48 + u % 10 : Nat) : Int))]) h1 hid
    have hB := h3.new (.cells [.lit (.int .u8 ((48 + u % 10 : Nat) : Int))]) hid
    have hbl : b.length ≤ 100 := by
      rcases h4 with ⟨h4, -⟩ | ⟨-, h4⟩
      · rw [h4]; simp
      · split at h4
        · rw [h4]; omega
        · have := congrArg List.length h4
          rw [List.length_append] at this
          omega
    refine hA.app hle (xs := u8V b) (k := b.length) hB.cells hB.llen (by simp [u8V]) ⟨by omega, by omega⟩ fun A' u2 g1 g2 g3 => ?_
    simp only [e4]
    have hcell : [HV.lit (.int .u8 ((48 + u % 10 : Nat) : Int))] ++ u8V b = u8V (UInt8.ofNat (48 + u % 10) :: b) := by
      simp only [u8V, List.map_cons, List.singleton_append]
      congr 4
      rw [UInt8.toNat_ofNat_of_lt' (by show _ < 2 ^ 8; omega)]
    refine hK (u / 10, A', UInt8.ofNat (48 + u % 10) :: b) _ _ rfl ⟨g2, by show u / 10 ≤ n; omega, ?_, .inr ⟨by simp, ?_⟩⟩ ?_
    · show Acc t u2 1 A' (b.length + 1) _
      rw [← hcell, Nat.add_comm]
      exact g1
    · show if u / 10 = 0 then UInt8.ofNat (48 + u % 10) :: b = decL n else decL (u / 10) ++ (UInt8.ofNat (48 + u % 10) :: b) = decL n
      have key : decL u ++ b = decL n := by
        rcases h4 with ⟨h4, h5⟩ | ⟨h4, h5⟩
        · rw [h4, h5, List.append_nil]
        · have hu : ¬ u = 0 := fun e => by simp [e, h4] at hc
          rw [if_neg hu] at h5
          exact h5
      by_cases hu : u < 10
      · rw [if_pos (by omega), ← key, decL_small hu, Nat.mod_eq_of_lt hu]
        rfl
      · rw [if_neg (by omega), ← key, decL_big hu, List.append_assoc]
        rfl
    · show 2 * (u / 10) + (if UInt8.ofNat (48 + u % 10) :: b = [] then 1 else 0) < 2 * u + if b = [] then 1 else 0
      rw [if_neg (by simp)]
      by_cases hb : b = []
      · rw [if_pos hb]; omega
      · rw [if_neg hb]
        have : 0 < u := by simpa [hb] using hc
        omega
  | false =>
    simp only [Bool.or_eq_false_iff, decide_eq_false_iff_not] at hc
    obtain ⟨hu, hb⟩ := hc
    rcases h4 with ⟨h4, -⟩ | ⟨-, h4⟩
    · exact absurd h4 hb
    · rw [if_pos (by omega)] at h4
      have hns : isStrHV B = false := by
        rcases h3 with ⟨rfl, -⟩ | ⟨q, f, -, rfl, -⟩ <;> rfl
      simp only [hns, Bool.false_eq_true, if_false, vToStr, h3.cells, Option.bind_some, bytesOf_u8V, Option.map_some]
      rw [show HV.lit (.string ⟨b.toArray⟩) = strV b from rfl, add_s (by rw [h4]; simp; omega)]
      exact ⟨t, h1, rfl, by rw [h4]; rfl⟩
end Go.Proofs.YtkcgokkgefgcjaaGreatDoor.AS
end
section
namespace Go.Proofs.YtkcgokkgefgcjaaGreatDoor.AS
open Go.Proofs.YtkcgokkgefgcjaaGreatDoor.H Go.Proofs.YtkcgokkgefgcjaaGreatDoor.G0 Go.Proofs.YtkcgokkgefgcjaaGreatDoor.G1
set_option linter.unusedVariables false
set_option linter.unusedSimpArgs false
set_option maxRecDepth 100000
/-- What stands within a row that grows is a list from here on. -/
theorem acc_frzIn {b t : HS} {sz : Nat} {A : HV} {n : Nat} {cs : List HV} (h : Acc b t sz A n cs) (hb : HS.le b t) {q : Nat} {ds : List HV} (hq : t q = some (.cells ds)) (hbq : b q = none) (hA : accId A ≠ some q) :
    ∃ t', (∀ ys zs : List HV, (∀ q cs, ys.map (frz2 q cs) = ys) → (∀ q cs, zs.map (frz2 q cs) = zs) → UpL (ys ++ A :: zs) t (ys ++ A :: zs) t') ∧ HS.le b t' ∧ Acc b t' sz A n (cs.map (frz0 q ds)) := by
  rcases h with ⟨rfl, rfl, rfl⟩ | ⟨a, f, h1, rfl, h3, h4⟩
  · exact ⟨b, fun _ _ _ _ => UpL.le _ hb, le_refl' b, .inl ⟨rfl, rfl, rfl⟩⟩
  · have hne : a ≠ q := by rintro rfl; exact hA rfl
    refine ⟨b.set a (.cells (cs.map (frz0 q ds))), fun ys zs hy hz => ?_, le_set_new _ (le_refl' b) h1, .inr ⟨a, f, h1, rfl, set_at _ _ _, by rw [List.length_map]; exact h4⟩⟩
    have hu := UpL.frzG (xs := ys ++ HV.view a 0 sz n f :: zs) (s' := b.set a (.cells (cs.map (frz0 q ds)))) hq (fun k o hk => ?_)
    · have e : (ys ++ HV.view a 0 sz n f :: zs).map (frz2 q ds) = ys ++ HV.view a 0 sz n f :: zs := by
        rw [List.map_append, List.map_cons, hy, hz]
        simp [frz2, frz1, frz0, phi, hne]
      rw [e] at hu
      exact hu
    · by_cases hka : k = a
      · subst hka
        rw [set_at] at hk
        cases hk
        exact ⟨hne, _, h3, .inr rfl⟩
      · rw [set_ne _ _ hka] at hk
        exact ⟨(by rintro rfl; rw [hbq] at hk; cases hk), o, hb _ _ hk, .inl rfl⟩
theorem acc_row {b t : HS} {sz : Nat} {A : HV} {n : Nat} {cs : List HV} (h : Acc b t sz A n cs) : RowV t sz A n cs := acc0_row (.inl h)
theorem eql_n (a b : Int) : vCmp (Tryz.prog.underlying 3) .eql (.lit (.int .i64 a)) (.lit (.int .i64 b)) = some (.lit (.bool (decide (a = b)))) := by
  simp only [vCmp, vBin, if_true, Option.some.injEq, HV.lit.injEq, Value.bool.injEq]
  rw [Bool.eq_iff_iff]
  simp
theorem len26 (o : Option DD) (t : HS) : vLenT (Tryz.prog.underlying 52) t (rowV shE 2 o) = some (.lit (.int .i64 (((o.getD []).length : Nat) : Int))) := len_rowV o t
end Go.Proofs.YtkcgokkgefgcjaaGreatDoor.AS
end
section
namespace Go.Proofs.YtkcgokkgefgcjaaGreatDoor.AS
open Go.Proofs.YtkcgokkgefgcjaaGreatDoor.H Go.Proofs.YtkcgokkgefgcjaaGreatDoor.G0 Go.Proofs.YtkcgokkgefgcjaaGreatDoor.G1
set_option linter.unusedVariables false
set_option linter.unusedSimpArgs false
set_option maxRecDepth 100000
theorem shD_get {rg : List Mem → List Top → List (Nat × Slot)} {l : List Mem} {tl : List Top} {i : Nat} (hi : i < l.length) : (shD rg l tl).getD i d0 = (((isM l).getD i m0).id, shOf (rg (isM l) (isT tl)) i) := by
  have hi' : i < (isM l).length := by rw [isort_len]; exact hi
  unfold shD
  rw [giveA_get _ _ (by rw [List.length_map]; exact hi')]
  have e : ((isM l).map fun m => ((m.id, []) : By × List Slot)).getD i d0 = (((isM l).getD i m0).id, []) := by
    simp [List.getD, hi']
  rw [e]
  simp
theorem shD_len (rg : List Mem → List Top → List (Nat × Slot)) (l : List Mem) (tl : List Top) : (shD rg l tl).length = l.length := by
  unfold shD
  rw [giveA_len, List.length_map, isort_len]
def valL (l : By) : Nat := l.foldl (fun a c => 10 * a + (c.toNat - 48)) 0
theorem valL_dec : ∀ n : Nat, valL (decL n) = n := by
  intro n
  induction n using Nat.strongRecOn with
  | ind n ih =>
    by_cases h : n < 10
    · rw [decL_small h]
      simp only [valL, List.foldl_cons, List.foldl_nil]
      rw [UInt8.toNat_ofNat_of_lt' (by show _ < 2 ^ 8; omega)]
      omega
    · rw [decL_big h, valL, List.foldl_append]
      have := ih (n / 10) (by omega)
      unfold valL at this
      rw [this]
      simp only [List.foldl_cons, List.foldl_nil]
      rw [UInt8.toNat_ofNat_of_lt' (by show _ < 2 ^ 8; omega)]
      omega
theorem decL_inj {a b : Nat} (h : decL a = decL b) : a = b := by rw [← valL_dec a, h, valL_dec]
theorem lw (d : By × List Slot) (u : HS) : vLoad u (.elt (shE d) (0 + 0)) 1 false = some (strV d.1) := rfl
theorem ls (d : By × List Slot) (u : HS) : vLoad u (.elt (shE d) (0 + 1)) 1 false = some (slV d.2) := rfl
end Go.Proofs.YtkcgokkgefgcjaaGreatDoor.AS
end
section
namespace Go.Proofs.YtkcgokkgefgcjaaGreatDoor.AS
open Go.Proofs.YtkcgokkgefgcjaaGreatDoor.H Go.Proofs.YtkcgokkgefgcjaaGreatDoor.G0 Go.Proofs.YtkcgokkgefgcjaaGreatDoor.G1
set_option linter.unusedVariables false
set_option linter.unusedSimpArgs false
set_option maxRecDepth 100000
theorem gtr_s (a b : By) : vBin .gtr (strV a) (strV b) = some (.lit (.bool (bl_ b a))) := by
  simp only [vBin, strV, str_lt, toL, Option.some.injEq, HV.lit.injEq, Value.bool.injEq]
  show (!(bl_ a b || a == b)) = bl_ b a
  cases h : bl_ b a with
  | true =>
    rw [bl_asymm h]
    have : (a == b) = false := by
      cases e : a == b with
      | false => rfl
      | true => rw [eq_of_beq e, bl_irrefl] at h; cases h
    rw [this]
    rfl
  | false =>
    rcases bl_tri b a h with rfl | h2
    · simp
    · rw [h2]; rfl
theorem slice_rowV_hi {α : Type} {enc : α → List HV} {sz : Nat} (h : ∀ x, (enc x).length = sz) (o : Option (List α)) {k : Nat} (hk : k ≤ (o.getD []).length) : vSlice sz (rowV enc sz o) none (some (.lit (.int .i64 (k : Int)))) none = some (rowV enc sz (o.map (List.take k))) := by
  cases o with
  | none =>
    have : k = 0 := by simpa using hk
    subst this
    rfl
  | some l => exact slice_rowL_hi h l .i64 hk
theorem slice_rowV_lo {α : Type} {enc : α → List HV} {sz : Nat} (h : ∀ x, (enc x).length = sz) (o : Option (List α)) {k : Nat} (hk : k ≤ (o.getD []).length) : vSlice sz (rowV enc sz o) (some (.lit (.int .i64 (k : Int)))) none none = some (rowV enc sz (o.map (List.drop k))) := by
  cases o with
  | none =>
    have : k = 0 := by simpa using hk
    subst this
    rfl
  | some l => exact slice_rowL_lo h l .i64 hk
theorem getD_map {α : Type} (f : List α → List α) (hf : f [] = []) (o : Option (List α)) : (o.map f).getD [] = f (o.getD []) := by
  cases o with
  | none => exact hf.symm
  | some l => rfl
theorem sub_1 {k : Nat} (h : 0 < k) : vBin .sub (.lit (.int .i64 (k : Int))) (.lit (.int .i64 1)) = some (.lit (.int .i64 ((k - 1 : Nat) : Int))) ∨ 9223372036854775808 ≤ k := by
  by_cases hk : 9223372036854775808 ≤ k
  · exact .inr hk
  · left
    rw [sub_n (by omega) (by omega)]; congr 3; omega
theorem gtr_0 (k : Nat) : vBin .gtr (.lit (.int .i64 (k : Int))) (.lit (.int .i64 0)) = some (.lit (.bool (decide (0 < k)))) := by
  rw [gtr_n]; congr 3; rw [decide_eq_decide]; omega
theorem insK_exit {α : Type} (nm : α → By) (z x : α) (out : List α) {k : Nat} (hk : k ≤ out.length) (h : (decide (0 < k) && bl_ (nm x) (nm (out.getD (k - 1) z))) = false) : insK nm x out k = k := by
  cases k with
  | zero => rfl
  | succ k =>
    have hlt : k < out.length := hk
    simp only [insK, List.getElem?_eq_getElem hlt]
    simp only [Nat.zero_lt_succ, decide_true, Bool.true_and, Nat.add_sub_cancel, getD_get _ _ hlt] at h
    rw [if_neg (by rw [h]; simp)]
theorem insK_step {α : Type} (nm : α → By) (z x : α) (out : List α) {k : Nat} (hk : k ≤ out.length) (h : (decide (0 < k) && bl_ (nm x) (nm (out.getD (k - 1) z))) = true) : 0 < k ∧ insK nm x out k = insK nm x out (k - 1) := by
  simp only [Bool.and_eq_true, decide_eq_true_eq] at h
  obtain ⟨h0, h1⟩ := h
  obtain ⟨j, rfl⟩ : ∃ j, k = j + 1 := ⟨k - 1, by omega⟩
  have hlt : j < out.length := hk
  refine ⟨h0, ?_⟩
  simp only [Nat.add_sub_cancel, getD_get _ _ hlt] at h1
  rw [Nat.add_sub_cancel, insK, List.getElem?_eq_getElem hlt]
  simp only [h1, if_true]
theorem refMembers31 (l : List Mem) (s : HS) (hl : l.length ≤ 1000000) : HC Tryz.prog 85 [rowL memC 2 l] s (fun v s' => s' = s ∧ ∃ o : Option (List Mem), v = rowV memC 2 o ∧ o.getD [] = isort Mem.id l) := by
  refine HC.up (HC85 ?_)
  unfold c85
  have i1 := fun i hi => idx_rowL memC_len m0 l (i := i) .i64 hi
  refine HLoop.ghostU (σ := Option (List Mem) × Nat) (fun g => [rowV memC 2 g.1, .lit (.int .i64 (g.2 : Int))]) (fun g t => g.2 ≤ l.length ∧ HS.le s t ∧ g.1.getD [] = isort Mem.id (l.take g.2)) (fun g => l.length - g.2) (none, 0) s (UpL.refl _ _) ⟨Nat.zero_le _, le_refl' s, rfl⟩ ?_
  rintro ⟨o, i⟩ t K ⟨h1, h2, h3⟩ hK
  simp only at h1 h3
  simp only [List.headD_cons, List.tail_cons]
  rw [show vLenT (Tryz.prog.underlying 111) t (rowL memC 2 l) = some (.lit (.int .i64 ((l.length : Nat) : Int))) from rfl]
  simp only [bindO, lss_i]
  by_cases hi : i < l.length
  · have hts := take_succ' m0 l hi
    rw [show vLenT (Tryz.prog.underlying 111) t (rowV memC 2 o) = some (.lit (.int .i64 (((o.getD []).length : Nat) : Int))) from len_rowV o t]
    simp only [hi, decide_true, hcond, i1 i hi]
    have hil := isort_len Mem.id (l.take i)
    have hsn := isort_snoc Mem.id (l.take i) (l.getD i m0)
    rw [← hts, ← h3] at hsn
    rw [← h3, List.length_take, Nat.min_eq_left h1] at hil
    have i2 := fun j hj => idx_rowV memC_len m0 o (i := j) hj
    have lh := fun k hk => slice_rowV_hi memC_len o (k := k) hk
    have ll := fun k hk => slice_rowV_lo memC_len o (k := k) hk
    have hgt := fun k => getD_map (List.take k) List.take_nil o
    have hgd := fun k => getD_map (List.drop k) List.drop_nil o
    obtain ⟨out, hout⟩ : ∃ out, o.getD [] = out := ⟨_, rfl⟩
    rw [hout] at hil hsn i2 lh ll hgt hgd
    rw [hout]
    generalize l.getD i m0 = x at *
    refine HLoop.ghost (σ := Nat) (fun k => [.lit (.int .i64 (k : Int))]) (fun k u => k ≤ out.length ∧ u = t ∧ insK Mem.id x out out.length = insK Mem.id x out k) (fun k => k) out.length rfl ⟨Nat.le_refl _, rfl, rfl⟩ ?_
    rintro k u K7 ⟨k1, rfl, k2⟩ hK7
    simp only [List.headD_cons, gtr_0]
    refine Join.of (fun xs w => w = u ∧ xs = [.lit (.bool (decide (0 < k) && bl_ x.id (out.getD (k - 1) m0).id))]) ?_ ?_
    rotate_left
    · intro K10 hK10
      by_cases h0 : 0 < k
      · have hs1 := (sub_1 h0).resolve_right (by omega)
        simp only [h0, decide_true, hs1, i2 (k - 1) (by omega), vField]
        rw [show ∀ y : Mem, vLoad u (.elt (memC y) (0 + 0)) 1 false = some (strV y.id) from fun _ => rfl, show vLoad u (.elt (memC x) (0 + 0)) 1 false = some (strV x.id) from rfl]
        simp only [gtr_s]
        exact hK10 _ _ ⟨rfl, by simp [h0]⟩
      · simp only [h0, decide_false]
        exact hK10 _ _ ⟨rfl, by simp [h0]⟩
    rintro _ w ⟨rfl, rfl⟩
    simp only [List.headD_cons]
    cases hc : decide (0 < k) && bl_ x.id (out.getD (k - 1) m0).id with
    | true =>
      obtain ⟨h0, h4⟩ := insK_step Mem.id m0 x out k1 hc
      have hs1 := (sub_1 h0).resolve_right (by omega)
      simp only [hs1]
      exact hK7 (k - 1) _ _ rfl ⟨by omega, rfl, by rw [k2, h4]⟩ (by omega)
    | false =>
      have h4 := insK_exit Mem.id m0 x out k1 hc
      rw [h4] at k2
      simp only [lh k k1, ll k k1]
      rw [show vLoad w (.elt (memC x) 0) 2 true = some (.agg (memC x)) from rfl]
      simp only
      refine ins3 (t := w) (sz := 2) (by_ := 40) (b2 := true) (zs := [.lit (.string .empty), .lit (.slice none 0 0)]) (vs := memC x) (cs1 := rows memC (out.take k)) (cs3 := rows memC (out.drop k)) (n1 := k) (n3 := out.length - k) (fun s => by rw [lcells_rowV, hgt]) (by rw [llen_rowV, hgt, List.length_take, Nat.min_eq_left k1]) (by rw [rows_len memC_len, List.length_take, Nat.min_eq_left k1]) (fun s => by rw [lcells_rowV, hgd]) (by rw [llen_rowV, hgd, List.length_drop]) (by rw [rows_len memC_len, List.length_drop]) (hc_agg _) rfl rfl ⟨by omega, by omega⟩ ⟨by omega, by omega⟩ ⟨by omega, by omega⟩ fun A v g1 g2 => ?_
      simp only [inc_i hi (by omega)]
      refine hK (some (insA Mem.id x out), i + 1) _ _ w ?_ ⟨hi, h2, ?_⟩ (by show l.length - (i + 1) < l.length - i; omega)
      · have hu := acc0_upAtL g1 g2 [] [.lit (.int .i64 ((i + 1 : Nat) : Int))] (fun _ _ => rfl) (fun _ _ => rfl)
        have e : HV.list 2 (k + 1 + (out.length - k)) (rows memC (out.take k) ++ memC x ++ rows memC (out.drop k)) false = rowV memC 2 (some (insA Mem.id x out)) := by
          unfold insA
          rw [k2]
          simp only [rowV, rowL, rows_app, rows_cons, List.append_assoc]
          congr 1
          simp only [List.length_append, List.length_cons, List.length_take, List.length_drop]
          omega
        rw [e] at hu
        exact hu
      · show insA Mem.id x out = isort Mem.id (l.take (i + 1))
        rw [hsn]
  · obtain rfl : i = l.length := by omega
    simp only [hi, decide_false, hcond]
    rw [List.take_length] at h3
    exact ⟨_, s, UpL.le _ h2, rfl, o, rfl, h3⟩
theorem refTopics32 (l : List Top) (s : HS) (hl : l.length ≤ 1000000) : HC Tryz.prog 89 [rowL topC 2 l] s (fun v s' => s' = s ∧ ∃ o : Option (List Top), v = rowV topC 2 o ∧ o.getD [] = isort Top.name l) := by
  refine HC.up (HC89 ?_)
  unfold c89
  have i1 := fun i hi => idx_rowL topC_len t0 l (i := i) .i64 hi
  refine HLoop.ghostU (σ := Option (List Top) × Nat) (fun g => [rowV topC 2 g.1, .lit (.int .i64 (g.2 : Int))]) (fun g t => g.2 ≤ l.length ∧ HS.le s t ∧ g.1.getD [] = isort Top.name (l.take g.2)) (fun g => l.length - g.2) (none, 0) s (UpL.refl _ _) ⟨Nat.zero_le _, le_refl' s, rfl⟩ ?_
  rintro ⟨o, i⟩ t K ⟨h1, h2, h3⟩ hK
  simp only at h1 h3
  simp only [List.headD_cons, List.tail_cons]
  rw [show vLenT (Tryz.prog.underlying 41) t (rowL topC 2 l) = some (.lit (.int .i64 ((l.length : Nat) : Int))) from rfl]
  simp only [bindO, lss_i]
  by_cases hi : i < l.length
  · have hts := take_succ' t0 l hi
    rw [show vLenT (Tryz.prog.underlying 41) t (rowV topC 2 o) = some (.lit (.int .i64 (((o.getD []).length : Nat) : Int))) from len_rowV o t]
    simp only [hi, decide_true, hcond, i1 i hi]
    have hil := isort_len Top.name (l.take i)
    have hsn := isort_snoc Top.name (l.take i) (l.getD i t0)
    rw [← hts, ← h3] at hsn
    rw [← h3, List.length_take, Nat.min_eq_left h1] at hil
    have i2 := fun j hj => idx_rowV topC_len t0 o (i := j) hj
    have lh := fun k hk => slice_rowV_hi topC_len o (k := k) hk
    have ll := fun k hk => slice_rowV_lo topC_len o (k := k) hk
    have hgt := fun k => getD_map (List.take k) List.take_nil o
    have hgd := fun k => getD_map (List.drop k) List.drop_nil o
    obtain ⟨out, hout⟩ : ∃ out, o.getD [] = out := ⟨_, rfl⟩
    rw [hout] at hil hsn i2 lh ll hgt hgd
    rw [hout]
    generalize l.getD i t0 = x at *
    refine HLoop.ghost (σ := Nat) (fun k => [.lit (.int .i64 (k : Int))]) (fun k u => k ≤ out.length ∧ u = t ∧ insK Top.name x out out.length = insK Top.name x out k) (fun k => k) out.length rfl ⟨Nat.le_refl _, rfl, rfl⟩ ?_
    rintro k u K7 ⟨k1, rfl, k2⟩ hK7
    simp only [List.headD_cons, gtr_0]
    refine Join.of (fun xs w => w = u ∧ xs = [.lit (.bool (decide (0 < k) && bl_ x.name (out.getD (k - 1) t0).name))]) ?_ ?_
    rotate_left
    · intro K10 hK10
      by_cases h0 : 0 < k
      · have hs1 := (sub_1 h0).resolve_right (by omega)
        simp only [h0, decide_true, hs1, i2 (k - 1) (by omega), vField]
        rw [show ∀ y : Top, vLoad u (.elt (topC y) (0 + 0)) 1 false = some (strV y.name) from fun _ => rfl, show vLoad u (.elt (topC x) (0 + 0)) 1 false = some (strV x.name) from rfl]
        simp only [gtr_s]
        exact hK10 _ _ ⟨rfl, by simp [h0]⟩
      · simp only [h0, decide_false]
        exact hK10 _ _ ⟨rfl, by simp [h0]⟩
    rintro _ w ⟨rfl, rfl⟩
    simp only [List.headD_cons]
    cases hc : decide (0 < k) && bl_ x.name (out.getD (k - 1) t0).name with
    | true =>
      obtain ⟨h0, h4⟩ := insK_step Top.name t0 x out k1 hc
      have hs1 := (sub_1 h0).resolve_right (by omega)
      simp only [hs1]
      exact hK7 (k - 1) _ _ rfl ⟨by omega, rfl, by rw [k2, h4]⟩ (by omega)
    | false =>
      have h4 := insK_exit Top.name t0 x out k1 hc
      rw [h4] at k2
      simp only [lh k k1, ll k k1]
      rw [show vLoad w (.elt (topC x) 0) 2 true = some (.agg (topC x)) from rfl]
      simp only
      refine ins3 (t := w) (sz := 2) (by_ := 24) (b2 := true) (zs := [.lit (.string .empty), .lit (.int .i64 0)]) (vs := topC x) (cs1 := rows topC (out.take k)) (cs3 := rows topC (out.drop k)) (n1 := k) (n3 := out.length - k) (fun s => by rw [lcells_rowV, hgt]) (by rw [llen_rowV, hgt, List.length_take, Nat.min_eq_left k1]) (by rw [rows_len topC_len, List.length_take, Nat.min_eq_left k1]) (fun s => by rw [lcells_rowV, hgd]) (by rw [llen_rowV, hgd, List.length_drop]) (by rw [rows_len topC_len, List.length_drop]) (hc_agg _) rfl rfl ⟨by omega, by omega⟩ ⟨by omega, by omega⟩ ⟨by omega, by omega⟩ fun A v g1 g2 => ?_
      simp only [inc_i hi (by omega)]
      refine hK (some (insA Top.name x out), i + 1) _ _ w ?_ ⟨hi, h2, ?_⟩ (by show l.length - (i + 1) < l.length - i; omega)
      · have hu := acc0_upAtL g1 g2 [] [.lit (.int .i64 ((i + 1 : Nat) : Int))] (fun _ _ => rfl) (fun _ _ => rfl)
        have e : HV.list 2 (k + 1 + (out.length - k)) (rows topC (out.take k) ++ topC x ++ rows topC (out.drop k)) false = rowV topC 2 (some (insA Top.name x out)) := by
          unfold insA
          rw [k2]
          simp only [rowV, rowL, rows_app, rows_cons, List.append_assoc]
          congr 1
          simp only [List.length_append, List.length_cons, List.length_take, List.length_drop]
          omega
        rw [e] at hu
        exact hu
      · show insA Top.name x out = isort Top.name (l.take (i + 1))
        rw [hsn]
  · obtain rfl : i = l.length := by omega
    simp only [hi, decide_false, hcond]
    rw [List.take_length] at h3
    exact ⟨_, s, UpL.le _ h2, rfl, o, rfl, h3⟩
theorem nodup_take {l : List By} {i : Nat} (hi : i < l.length) (h : (l.take i).Nodup) (hn : l[i] ∉ l.take i) : (l.take (i + 1)).Nodup := by
  rw [List.take_succ_eq_append_getElem hi, List.nodup_append]
  refine ⟨h, by simp, fun a ha b hb e => ?_⟩
  rw [List.mem_singleton.1 hb] at e
  exact hn (e ▸ ha)
theorem not_nodup {l : List By} {i k : Nat} (hi : i < l.length) (hk : k < i) (e : l[i] = l[k]) : ¬ l.Nodup := fun h => by
  have := List.pairwise_iff_getElem.1 h k i (by omega) hi hk
  exact this e.symm
theorem may30 (l : List Mem) (tl : List Top) (s : HS) (hl : l.length ≤ 1000000) (htl : tl.length ≤ 1000000) : HC Tryz.prog 84 [rowL memC 2 l, rowL topC 2 tl] s (fun v s' => s' = s ∧ ∃ b : Bool, v = .lit (.bool b) ∧ (b = true ↔ okA l tl)) := by
  refine HC84 ?_
  unfold c84
  have i1 := fun i hi => idx_rowL memC_len m0 l (i := i) .i64 hi
  have i2 := fun i hi => idx_rowL topC_len t0 tl (i := i) .i64 hi
  have lI : ∀ (m : Mem) (w : HS), vLoad w (.elt (memC m) (0 + 0)) 1 false = some (strV m.id) := fun m w => rfl
  have lN : ∀ (m : Top) (w : HS), vLoad w (.elt (topC m) (0 + 0)) 1 false = some (strV m.name) := fun m w => rfl
  have lP : ∀ (m : Top) (w : HS), vLoad w (.elt (topC m) (0 + 1)) 1 false = some (.lit (.int .i64 m.parts)) := fun m w => rfl
  have gid : ∀ i (hi : i < l.length), (l.getD i m0).id = (l.map Mem.id)[i]'(by simpa using hi) := fun i hi => by rw [getD_get _ _ hi]; simp
  have gnm : ∀ i (hi : i < tl.length), (tl.getD i t0).name = (tl.map Top.name)[i]'(by simpa using hi) := fun i hi => by rw [getD_get _ _ hi]; simp
  refine HLoop.ghost (σ := Nat) (fun i => [.lit (.int .i64 (i : Int))]) (fun i t => i ≤ l.length ∧ t = s ∧ ((l.map Mem.id).take i).Nodup) (fun i => l.length - i) 0 rfl ⟨Nat.zero_le _, rfl, by simp⟩ ?_
  rintro i t K ⟨h1, rfl, h2⟩ hK
  simp only [List.headD_cons]
  rw [show vLenT (Tryz.prog.underlying 111) t (rowL memC 2 l) = some (.lit (.int .i64 ((l.length : Nat) : Int))) from rfl]
  simp only [bindO, lss_i]
  by_cases hi : i < l.length
  · simp only [hi, decide_true, hcond]
    refine HLoop.ghost (σ := Nat) (fun k => [.lit (.int .i64 (k : Int))]) (fun k u => k ≤ i ∧ u = t ∧ ∀ j, j < k → (l.getD i m0).id ≠ (l.getD j m0).id) (fun k => i - k) 0 rfl ⟨Nat.zero_le _, rfl, fun j hj => absurd hj (Nat.not_lt_zero _)⟩ ?_
    rintro k u K6 ⟨k1, rfl, k2⟩ hK6
    simp only [List.headD_cons, lss_i]
    by_cases hk : k < i
    · simp only [hk, decide_true, i1 i hi, i1 k (by omega), vField, lI, eql_s]
      by_cases he : (l.getD i m0).id = (l.getD k m0).id
      · simp only [he, decide_true]
        refine ⟨trivial, false, rfl, ⟨fun h => (by cases h), fun h => ?_⟩⟩
        exact absurd h.2.1 (not_nodup (i := i) (k := k) (by simpa using hi) hk (by rw [← gid i hi, ← gid k (by omega)]; exact he))
      · simp only [he, decide_false, inc_i hk (by omega)]
        refine hK6 (k + 1) _ _ rfl ⟨hk, rfl, fun j hj => ?_⟩ (by omega)
        rcases Nat.lt_succ_iff_lt_or_eq.1 hj with h | rfl
        · exact k2 j h
        · exact he
    · obtain rfl : k = i := by omega
      simp only [hk, decide_false, inc_i hi (by omega)]
      refine hK (k + 1) _ _ rfl ⟨hi, rfl, nodup_take (by simpa using hi) h2 fun hm => ?_⟩ (by omega)
      obtain ⟨j, hj, e⟩ := List.mem_iff_getElem.1 hm
      rw [List.getElem_take] at e
      have hjk : j < k := by simp at hj; omega
      exact k2 j hjk (by rw [gid k hi, gid j (by omega), e])
  · obtain rfl : i = l.length := by omega
    rw [List.take_of_length_le (by simp)] at h2
    simp only [hi, decide_false, hcond]
    refine HLoop.ghost (σ := Nat) (fun i => [.lit (.int .i64 (i : Int))]) (fun i u => i ≤ tl.length ∧ u = t ∧ ((tl.map Top.name).take i).Nodup ∧ ∀ x ∈ tl.take i, badT x = false) (fun i => tl.length - i) 0 rfl ⟨Nat.zero_le _, rfl, by simp, by simp⟩ ?_
    rintro i u K19 ⟨k1, rfl, k2, k3⟩ hK19
    simp only [List.headD_cons]
    rw [show vLenT (Tryz.prog.underlying 41) u (rowL topC 2 tl) = some (.lit (.int .i64 ((tl.length : Nat) : Int))) from rfl]
    simp only [lss_i]
    by_cases hi : i < tl.length
    · have hts := take_succ' t0 tl hi
      have hm := getD_memD t0 hi
      simp only [hi, decide_true]
      refine Join.of (fun xs w => w = u ∧ xs = [.lit (.bool (badT (tl.getD i t0)))]) ?_ ?_
      rotate_left
      · intro K24 hK24
        simp only [i2 i hi, vField, lP, lss_n, gtr_n]
        generalize tl.getD i t0 = T at *
        by_cases hb : T.parts < 0
        · simp only [hb, decide_true]
          exact hK24 _ _ ⟨rfl, by simp [badT, hb]⟩
        · simp only [hb, decide_false]
          exact hK24 _ _ ⟨rfl, by simp [badT, hb]⟩
      rintro _ w ⟨rfl, rfl⟩
      simp only [List.headD_cons]
      cases hb : badT (tl.getD i t0) with
      | true =>
        refine ⟨trivial, false, rfl, ⟨fun h => (by cases h), fun h => ?_⟩⟩
        have := List.any_eq_false.1 h.1 _ hm
        rw [hb] at this
        exact absurd rfl this
      | false =>
        simp only
        refine HLoop.ghost (σ := Nat) (fun k => [.lit (.int .i64 (k : Int))]) (fun k u => k ≤ i ∧ u = w ∧ ∀ j, j < k → (tl.getD i t0).name ≠ (tl.getD j t0).name) (fun k => i - k) 0 rfl ⟨Nat.zero_le _, rfl, fun j hj => absurd hj (Nat.not_lt_zero _)⟩ ?_
        rintro k u K6 ⟨q1, rfl, q2⟩ hK6
        simp only [List.headD_cons, lss_i]
        by_cases hk : k < i
        · simp only [hk, decide_true, i2 i hi, i2 k (by omega), vField, lN, eql_s]
          by_cases he : (tl.getD i t0).name = (tl.getD k t0).name
          · simp only [he, decide_true]
            refine ⟨trivial, false, rfl, ⟨fun h => (by cases h), fun h => ?_⟩⟩
            exact absurd h.2.2 (not_nodup (i := i) (k := k) (by simpa using hi) hk (by rw [← gnm i hi, ← gnm k (by omega)]; exact he))
          · simp only [he, decide_false, inc_i hk (by omega)]
            refine hK6 (k + 1) _ _ rfl ⟨hk, rfl, fun j hj => ?_⟩ (by omega)
            rcases Nat.lt_succ_iff_lt_or_eq.1 hj with h | rfl
            · exact q2 j h
            · exact he
        · obtain rfl : k = i := by omega
          simp only [hk, decide_false, inc_i hi (by omega)]
          refine hK19 (k + 1) _ _ rfl ⟨hi, rfl, nodup_take (by simpa using hi) k2 fun hm => ?_, fun x hx => ?_⟩ (by omega)
          · obtain ⟨j, hj, e⟩ := List.mem_iff_getElem.1 hm
            rw [List.getElem_take] at e
            have hjk : j < k := by simp at hj; omega
            exact q2 j hjk (by rw [gnm k hi, gnm j (by omega), e])
          · rw [hts] at hx
            rcases List.mem_append.1 hx with hx | hx
            · exact k3 x hx
            · rw [List.mem_singleton.1 hx]; exact hb
    · obtain rfl : i = tl.length := by omega
      rw [List.take_of_length_le (by simp)] at k2
      rw [List.take_length] at k3
      simp only [hi, decide_false]
      exact ⟨trivial, true, rfl, ⟨fun _ => ⟨List.any_eq_false.2 fun x hx => by rw [k3 x hx]; simp, h2, k2⟩, fun _ => rfl⟩⟩
theorem mk_sl (nm : By) (n : Int) : vMk [(0, 1), (1, 1)] [.lit (.string .empty), .lit (.int .i64 0)] [(0, strV nm), (1, .lit (.int .i64 n))] = some (.agg (slC (nm, n))) := by simp [vMk, hfill, strV, hc_string, hc_int]; rfl
theorem slots23 (tl : List Top) (s : HS) (hl : tl.length ≤ 1000000) (hp : ∀ t ∈ tl, t.parts ≤ 1000) : HC Tryz.prog 86 [rowL topC 2 tl] s (fun v s' => s' = s ∧ ∃ o : Option (List Slot), v = rowV slC 2 o ∧ o.getD [] = slotsOf (isT tl)) := by
  refine HC.up (HC86 ?_)
  unfold c86
  refine (refTopics32 tl s hl).mono ?_
  rintro v t ⟨rfl, o, rfl, ho⟩
  have hlen : (isT tl).length = tl.length := isort_len Top.name tl
  have hp' : ∀ x ∈ isT tl, x.parts ≤ 1000 := fun x hx => hp x ((isort_perm Top.name tl).mem_iff.1 hx)
  have i1 := fun i hi => idx_rowV topC_len t0 o (i := i) hi
  rw [show isort Top.name tl = isT tl from rfl] at ho
  generalize isT tl = ts at *
  rw [ho] at i1
  have lN : ∀ (m : Top) (w : HS), vLoad w (.elt (topC m) (0 + 0)) 1 false = some (strV m.name) := fun m w => rfl
  have lP : ∀ (m : Top) (w : HS), vLoad w (.elt (topC m) (0 + 1)) 1 false = some (.lit (.int .i64 m.parts)) := fun m w => rfl
  refine HLoop.ghost (σ := HV × Nat) (fun g => [g.1, .lit (.int .i64 (g.2 : Int))]) (fun g u => g.2 ≤ ts.length ∧ HS.le t u ∧ Acc t u 2 g.1 (slotsOf (ts.take g.2)).length (rows slC (slotsOf (ts.take g.2)))) (fun g => ts.length - g.2) (nilV, 0) rfl ⟨Nat.zero_le _, le_refl' t, Acc.nil _ _ _⟩ ?_
  rintro ⟨A, i⟩ u K ⟨h1, h2, h3⟩ hK
  simp only at h1 h3
  simp only [List.headD_cons, List.tail_cons]
  rw [show vLenT (Tryz.prog.underlying 41) u (rowV topC 2 o) = some (.lit (.int .i64 (((o.getD []).length : Nat) : Int))) from len_rowV o u]
  rw [ho]
  simp only [bindO, lss_i]
  by_cases hi : i < ts.length
  · have hst := slotsOf_take ts hi
    have hsl := slots_len (ts.take i) fun x hx => hp' x (List.mem_of_mem_take hx)
    rw [List.length_take, Nat.min_eq_left h1] at hsl
    have hm := hp' _ (getD_memD t0 hi)
    simp only [hi, decide_true, hcond, i1 i hi, vField, lN, lP]
    generalize ts.getD i t0 = T at *
    refine HLoop.ghost (σ := HV × Nat) (fun g => [g.1, .lit (.int .i64 (g.2 : Int))]) (fun g w => g.2 ≤ T.parts.toNat ∧ HS.le t w ∧ Acc t w 2 g.1 ((slotsOf (ts.take i)).length + g.2) (rows slC (slotsOf (ts.take i) ++ slotsT T.name g.2))) (fun g => T.parts.toNat - g.2) (A, 0) rfl ⟨Nat.zero_le _, h2, by simpa [slotsT] using h3⟩ ?_
    rintro ⟨B, p⟩ w K8 ⟨k1, k2, k3⟩ hK8
    simp only at k1 k3
    simp only [List.headD_cons, List.tail_cons, lss_n]
    by_cases hpp : (p : Int) < T.parts
    · simp only [hpp, decide_true, mk_sl]
      refine k3.app1 k2 (hc_agg _) rfl rfl ⟨by omega, by omega⟩ fun B' w' g1 g2 g3 => ?_
      rw [wlit1, add_i (by omega)]
      refine hK8 (B', p + 1) _ _ rfl ⟨by show p + 1 ≤ T.parts.toNat; omega, g2, ?_⟩ (by show T.parts.toNat - (p + 1) < T.parts.toNat - p; omega)
      show Acc t w' 2 B' ((slotsOf (ts.take i)).length + (p + 1)) (rows slC (slotsOf (ts.take i) ++ slotsT T.name (p + 1)))
      have e : slotsT T.name (p + 1) = slotsT T.name p ++ [(T.name, (p : Int))] := by simp [slotsT, List.range_succ]
      rw [e, ← List.append_assoc, rows_app, rows_one]
      exact g1
    · simp only [hpp, decide_false, inc_i hi (by omega)]
      have hpe : p = T.parts.toNat := by omega
      refine hK (B, i + 1) _ _ rfl ⟨hi, k2, ?_⟩ (by show ts.length - (i + 1) < ts.length - i; omega)
      show Acc t w 2 B (slotsOf (ts.take (i + 1))).length (rows slC (slotsOf (ts.take (i + 1))))
      rw [hst]
      rw [hpe] at k3
      have e : (slotsOf (ts.take i) ++ (List.range T.parts.toNat).map fun j => (T.name, ((j : Nat) : Int))).length = (slotsOf (ts.take i)).length + T.parts.toNat := by simp
      rw [e]
      exact k3
  · obtain rfl : i = ts.length := by omega
    simp only [hi, decide_false, hcond]
    rw [List.take_length] at h3
    refine ⟨_, t, h3.upAt h2 [] [] (fun _ _ => rfl) (fun _ _ => rfl), rfl, ?_⟩
    rw [accV_rows]
    cases slotsOf ts with
    | nil => exact ⟨none, rfl, rfl⟩
    | cons x r => exact ⟨some (x :: r), rfl, rfl⟩
end Go.Proofs.YtkcgokkgefgcjaaGreatDoor.AS
end
section
namespace Go.Proofs.YtkcgokkgefgcjaaGreatDoor.AS
open Go.Proofs.YtkcgokkgefgcjaaGreatDoor.H Go.Proofs.YtkcgokkgefgcjaaGreatDoor.G0 Go.Proofs.YtkcgokkgefgcjaaGreatDoor.G1
set_option linter.unusedVariables false
set_option linter.unusedSimpArgs false
set_option maxRecDepth 100000
def zC (z : Int) : List HV := [.lit (.int .i64 z)]
theorem zC_len (z : Int) : (zC z).length = 1 := rfl
theorem store_z {s : HS} {q : Nat} {who : List Int} {i : Nat} {v : Int} {K : HS → Prop} (hq : s q = some (.cells (rows zC who))) (hi : i < who.length) (hK : K (s.set q (.cells (rows zC (who.set i v))))) : hStore s (.ptr q i) (.lit (.int .i64 v)) 1 K := by
  have h := put_rows zC_len v [] who i hi
  rw [Nat.mul_one, List.append_nil, List.append_nil] at h
  simp only [hStore, hc_int, hq]
  refine ⟨rfl, by rw [rows_len zC_len]; omega, fun x hx => by rw [List.mem_singleton.1 hx]; rfl, ?_⟩
  rw [show [HV.lit (.int .i64 v)] = zC v from rfl, h]
  exact hK
theorem idx_z {q n : Nat} {f : Bool} {i : Nat} (hi : i < n) : vIdx 1 (.view q 0 1 n f) (.lit (.int .i64 (i : Int))) = some (.ptr q i) := by
  rw [idx_view .i64 hi, Nat.zero_add, Nat.mul_one]
theorem set_rep (pre : List Int) (m : Nat) (c v : Int) : (pre ++ List.replicate (m + 1) c).set pre.length v = (pre ++ [v]) ++ List.replicate m c := by
  rw [List.set_append_right _ _ (Nat.le_refl _), Nat.sub_self, List.replicate_succ, List.set_cons_zero, List.append_assoc]
  rfl
def refD (ms : List Mem) (xs : List Slot) (who : List Int) : DD := (List.range ms.length).map fun i => ((ms.getD i m0).id, refShare xs who i)
theorem refShare_succ (xs : List Slot) (who : List Int) (i : Nat) {k : Nat} (hx : k < xs.length) (hw : k < who.length) : refShare (xs.take (k + 1)) (who.take (k + 1)) i = refShare (xs.take k) (who.take k) i ++ if who.getD k 0 = (i : Int) then [xs.getD k ([], 0)] else [] := by
  rw [take_succ' ([], 0) xs hx, take_succ' 0 who hw, refShare_app (by simp; omega)]
  congr 1
  rw [show [who.getD k 0] = List.replicate 1 (who.getD k 0) from rfl, refShare_rep]
  rfl
theorem shares33 (om : Option (List Mem)) (os : Option (List Slot)) (who : List Int) (s : HS) (hw : who.length = (os.getD []).length) (hm : (om.getD []).length ≤ 1000000) (hx : (os.getD []).length ≤ 1000000000) :
    HC Tryz.prog 88 [rowV memC 2 om, rowV slC 2 os, rowL zC 1 who] s (fun v s' => s' = s ∧ ∃ o : Option DD, v = rowV shE 2 o ∧ o.getD [] = refD (om.getD []) (os.getD []) who) := by
  refine HC.up (HC88 ?_)
  unfold c88
  have i1 := fun i hi => idx_rowV memC_len m0 om (i := i) hi
  have i2 := fun i hi => idx_rowV slC_len ([], 0) os (i := i) hi
  have i3 := fun i hi => idx_rowL zC_len 0 who (i := i) .i64 hi
  have l1 : ∀ t, vLenT (Tryz.prog.underlying 111) t (rowV memC 2 om) = some (.lit (.int .i64 (((om.getD []).length : Nat) : Int))) := fun t => len_rowV om t
  have l2 : ∀ t, vLenT (Tryz.prog.underlying 46) t (rowV slC 2 os) = some (.lit (.int .i64 (((os.getD []).length : Nat) : Int))) := fun t => len_rowV os t
  generalize om.getD [] = ms at *
  generalize os.getD [] = xs at *
  refine HLoop.ghostU (σ := HV × Nat) (fun g => [g.1, .lit (.int .i64 (g.2 : Int))]) (fun g t => g.2 ≤ ms.length ∧ HS.le s t ∧ Acc s t 2 g.1 g.2 (rows shE ((List.range g.2).map fun i => ((ms.getD i m0).id, refShare xs who i)))) (fun g => ms.length - g.2) (nilV, 0) s (UpL.refl _ _) ⟨Nat.zero_le _, le_refl' s, Acc.nil _ _ _⟩ ?_
  rintro ⟨OUT, i⟩ t K ⟨h1, h2, h3⟩ hK
  simp only at h1 h3
  simp only [List.headD_cons, List.tail_cons, l1, bindO, lss_i]
  by_cases hi : i < ms.length
  · simp only [hi, decide_true, hcond, i1 i hi, vField]
    rw [show vLoad t (.elt (memC (ms.getD i m0)) (0 + 0)) 1 false = some (strV (ms.getD i m0).id) from rfl]
    simp only
    obtain ⟨nm, hnm⟩ : ∃ nm, (ms.getD i m0).id = nm := ⟨_, rfl⟩
    rw [hnm, show vMk [(0, 1), (1, 1)] [.lit (.string .empty), .lit (.slice none 0 0)] [(0, strV nm)] = some (.agg [strV nm, nilV]) from rfl]
    simp only
    refine new_store rfl rfl (by intro x hx; simp at hx; rcases hx with rfl | rfl <;> rfl) fun X hX => ?_
    refine HLoop.ghost (σ := HV × Nat) (fun g => [.lit (.int .i64 (g.2 : Int))]) (fun g u => g.2 ≤ xs.length ∧ HS.le t u ∧ u X = some (.cells [strV nm, g.1]) ∧ Acc t u 2 g.1 (refShare (xs.take g.2) (who.take g.2) i).length (rows slC (refShare (xs.take g.2) (who.take g.2) i)) ∧ accId g.1 ≠ some X ∧ (refShare (xs.take g.2) (who.take g.2) i).length ≤ g.2) (fun g => xs.length - g.2) (nilV, 0) rfl ⟨Nat.zero_le _, le_set_new _ (le_refl' t) hX, set_at _ _ _, Acc.nil _ _ _, (by rintro ⟨⟩), Nat.le_refl _⟩ ?_
    rintro ⟨R, k⟩ u K13 ⟨k1, k2, k3, k4, k5, k6⟩ hK13
    simp only at k1 k3 k4 k5 k6
    simp only [List.headD_cons, l2, lss_i]
    by_cases hk : k < xs.length
    · have hsu := refShare_succ xs who i hk (by omega)
      simp only [hk, decide_true, i3 k (by omega)]
      rw [show vLoad u (.elt (zC (who.getD k 0)) 0) 1 false = some (.lit (.int .i64 (who.getD k 0))) from rfl]
      simp only [eql_n]
      refine Join.of (fun _ u' => ∃ R', HS.le t u' ∧ u' X = some (.cells [strV nm, R']) ∧ Acc t u' 2 R' (refShare (xs.take (k + 1)) (who.take (k + 1)) i).length (rows slC (refShare (xs.take (k + 1)) (who.take (k + 1)) i)) ∧ accId R' ≠ some X ∧ (refShare (xs.take (k + 1)) (who.take (k + 1)) i).length ≤ k + 1) ?_ ?_
      · rintro _ u' ⟨R', q1, q2, q3, q4, q5⟩
        simp only [inc_i hk (by omega)]
        exact hK13 (R', k + 1) _ _ rfl ⟨hk, q1, q2, q3, q4, q5⟩ (by show xs.length - (k + 1) < xs.length - k; omega)
      · intro K18 hK18
        rw [hsu] at hK18
        by_cases he : who.getD k 0 = (i : Int)
        · have lR : vLoad u (.ptr X (0 + 1)) 1 false = some R := load_cell 1 1 k3
          simp only [he, decide_true, lR, i2 k hk]
          rw [load_elt _ _ _ (slC_len _)]
          simp only
          refine k4.app1W (W := fun w => vLoad w (.ptr X (0 + 1)) 1 false = some R) k2 (hc_agg _) rfl rfl ⟨by omega, by omega⟩ (fun id hid => by
            have hX' : (u.set id (.cells (slC (xs.getD k ([], 0))))) X = some (.cells [strV nm, R]) := by rw [set_ne _ _ (ne_new k3 hid)]; exact k3
            exact load_cell 1 1 hX') fun R' u' g1 g2 g3 => ?_
          obtain ⟨m1, m2⟩ := g3 X _ k5 k3
          simp only [hStore, g1.hc, m1]
          refine ⟨by trivial, by simp, fun y hy => by rw [List.mem_singleton.1 hy]; exact g1.one, ?_⟩
          refine hK18 _ _ ⟨R', le_set_free _ g2 hX, set_at _ _ _, ?_, m2, ?_⟩
          · rw [if_pos he, rows_app, rows_one, List.length_append]
            exact g1.put _ m2
          · rw [if_pos he, List.length_append, List.length_singleton]; omega
        · simp only [he, decide_false]
          refine hK18 _ _ ⟨R, k2, k3, ?_, k5, ?_⟩
          · rw [if_neg he, List.append_nil]; exact k4
          · rw [if_neg he, List.append_nil]; omega
    · obtain rfl : k = xs.length := by omega
      rw [List.take_length, ← hw, List.take_length] at k4 k6
      have lA : vLoad u (.ptr X 0) 2 true = some (.agg [strV nm, R]) := load_all rfl k3
      simp only [hk, decide_false, lA]
      refine (h3.le k2).app1 (HS.le.trans h2 k2) (hc_agg _) rfl rfl ⟨by omega, by omega⟩ fun A' u' g1 g2 g3 => ?_
      simp only [inc_i hi (by omega)]
      have hsucc : (List.range (i + 1)).map (fun i => ((ms.getD i m0).id, refShare xs who i)) = (List.range i).map (fun i => ((ms.getD i m0).id, refShare xs who i)) ++ [(nm, refShare xs who i)] := by
        rw [List.range_succ, List.map_append, List.map_cons, List.map_nil, hnm]
      rcases k4 with ⟨e1, e2, e3⟩ | ⟨r, f, e1, rfl, e3, e4, e5⟩
      · have hnil : refShare xs who i = [] := List.eq_nil_of_length_eq_zero e3
        refine hK (A', i + 1) _ _ u' (UpL.refl _ _) ⟨hi, g2, ?_⟩ (by show ms.length - (i + 1) < ms.length - i; omega)
        show Acc s u' 2 A' (i + 1) (rows shE ((List.range (i + 1)).map _))
        rw [hsucc, rows_app, rows_one, hnil]
        rw [e1] at g1
        exact g1
      · have hne : accId OUT ≠ some r := fun e => by
          have := (h3.free e).2
          rw [e1] at this; cases this
        obtain ⟨m1, m2⟩ := g3 r _ hne e3
        obtain ⟨w, z1, z2, z3⟩ := acc_frzIn g1 g2 m1 (none_of_le h2 e1) m2
        refine hK (A', i + 1) _ _ w (z1 [] [_] (fun _ _ => rfl) (fun _ _ => rfl)) ⟨hi, z2, ?_⟩ (by show ms.length - (i + 1) < ms.length - i; omega)
        show Acc s w 2 A' (i + 1) (rows shE ((List.range (i + 1)).map _))
        rw [hsucc, rows_app, rows_one]
        rw [List.map_append, shE_frz] at z3
        have e6 : [strV nm, HV.view r 0 2 (refShare xs who i).length f].map (frz0 r (rows slC (refShare xs who i))) = shE (nm, refShare xs who i) := by
          simp only [List.map_cons, List.map_nil, strV, frz0, phi, true_and, Nat.zero_add, e4, Nat.le_refl, if_true, Option.getD_some, List.drop_zero, shE, slV, accV, if_neg e5]
          rw [List.take_of_length_le (by omega)]
        rw [e6] at z3
        exact z3
  · obtain rfl : i = ms.length := by omega
    simp only [hi, decide_false, hcond]
    refine ⟨_, s, h3.upAt h2 [] [] (fun _ _ => rfl) (fun _ _ => rfl), rfl, ?_⟩
    have e := accV_rows (enc := shE) (sz := 2) (refD ms xs who)
    have el : (refD ms xs who).length = ms.length := by simp [refD]
    rw [el] at e
    show ∃ o : Option DD, accV 2 ms.length (rows shE (refD ms xs who)) = rowV shE 2 o ∧ o.getD [] = refD ms xs who
    rw [e]
    cases refD ms xs who with
    | nil => exact ⟨none, rfl, rfl⟩
    | cons x r => exact ⟨some (x :: r), rfl, rfl⟩
theorem shD_refD (rg : List Mem → List Top → List (Nat × Slot)) (l : List Mem) (tl : List Top) (who : List Int) (h : ∀ i, shOf (rg (isM l) (isT tl)) i = refShare (slotsOf (isT tl)) who i) : refD (isM l) (slotsOf (isT tl)) who = shD rg l tl := by
  have h1 := list_range_get (shD rg l tl)
  rw [h1, shD_len, refD, isort_len]
  refine List.map_congr_left fun i hi => ?_
  rw [shD_get (by simpa using hi), h i]
theorem whoR_len (ms : List Mem) : ∀ ts : List Top, (whoR ms ts).length = (slotsOf ts).length
  | [] => rfl
  | t :: ts => by
    have e2 : (slotsOf (t :: ts)).length = t.parts.toNat + (slotsOf ts).length := by simp [slotsOf]
    have e3 : whoR ms (t :: ts) = whoT t.parts.toNat (whoOf ms t ms.length) ++ whoR ms ts := by simp [whoR]
    rw [e2, e3, List.length_append, whoT_len, whoR_len ms ts]
theorem whoR_take (ms : List Mem) (ts : List Top) {i : Nat} (hi : i < ts.length) : whoR ms (ts.take (i + 1)) = whoR ms (ts.take i) ++ whoT (ts.getD i t0).parts.toNat (whoOf ms (ts.getD i t0) ms.length) := by
  rw [take_succ' t0 ts hi]; simp [whoR]
theorem slots_take_le (ts : List Top) (i : Nat) : (slotsOf (ts.take i)).length ≤ (slotsOf ts).length := by
  have e : slotsOf ts = slotsOf (ts.take i) ++ slotsOf (ts.drop i) := by
    conv => lhs; rw [← List.take_append_drop i ts]
    simp only [slotsOf, List.flatMap_append]
  rw [e, List.length_append]
  omega
theorem zcells_rep (n : Nat) : zcells (.int .i64 0) (n * 1) = rows zC (List.replicate n 0) := by
  have h1 : (zcells (.int .i64 0) (n * 1)).length = n := by simp [zcells]
  have h2 : (rows zC (List.replicate n 0)).length = n := by rw [rows_len zC_len]; simp
  apply List.ext_getElem
  · rw [h1, h2]
  · intro i hi hi2
    have hin : i < n := by omega
    have e := rows_getD zC_len 0 (List.replicate n (0 : Int)) (i := i) (j := 0) (by simpa using hin) (by omega)
    rw [Nat.mul_one, Nat.add_zero, List.getElem?_eq_getElem hi2] at e
    have e2 : (List.replicate n (0 : Int)).getD i 0 = 0 := by simp [List.getD, hin]
    rw [e2] at e
    have e3 := Option.some.inj e
    rw [e3]
    simp [zcells, Value.cells, Nat.mod_one]
theorem make_z {s : HS} {n : Nat} {K : HV → HS → Prop} (hn : n ≤ 1000000000000) (hK : ∀ q, s q = none → K (.view q 0 1 n true) (s.set q (.cells (rows zC (List.replicate n 0))))) : hMake s 1 8 (.int .i64 0) (.lit (.int .i64 (n : Int))) (.lit (.int .i64 (n : Int))) K := by
  unfold hMake
  simp only [Int.toNat_natCast, zcells_rep, beq_self_eq_true]
  exact ⟨by omega, by omega, by omega, by omega, rfl, rfl, hK⟩
end Go.Proofs.YtkcgokkgefgcjaaGreatDoor.AS
end
section
namespace Go.Proofs.YtkcgokkgefgcjaaGreatDoor.AS
open Go.Proofs.YtkcgokkgefgcjaaGreatDoor.H Go.Proofs.YtkcgokkgefgcjaaGreatDoor.G0 Go.Proofs.YtkcgokkgefgcjaaGreatDoor.G1
set_option linter.unusedVariables false
set_option linter.unusedSimpArgs false
set_option maxRecDepth 100000
theorem idx_rl {α : Type} {enc : α → List HV} {sz : Nat} (h : ∀ x, (enc x).length = sz) (z : α) {o : Option (List α)} {l : List α} (ho : o.getD [] = l) {i : Nat} (hi : i < l.length) : vIdx sz (rowV enc sz o) (.lit (.int .i64 (i : Int))) = some (.elt (enc (l.getD i z)) 0) := by
  subst ho
  exact idx_rowV h z o hi
/-- The row of owners is a list from here on. -/
theorem up_who {s u : HS} {q n : Nat} {f : Bool} {who : List Int} {a b : HV} (hq : u q = some (.cells (rows zC who))) (hn : who.length = n) (hle : HS.le s u) (hs : s q = none) (ha : ∀ cs, frz2 q cs a = a) (hb : ∀ cs, frz2 q cs b = b) : UpL [a, b, .view q 0 1 n f] u [a, b, rowL zC 1 who] s := by
  have := UpL.frzD (xs := [a, b, .view q 0 1 n f]) hq hle hs
  have e3 : frz2 q (rows zC who) (.view q 0 1 n f) = .list 1 n ((rows zC who).take n) false := by simp [frz2, frz1, frz0, phi, rows_len zC_len, hn]
  rw [List.map_cons, List.map_cons, List.map_cons, ha, hb, e3, List.take_of_length_le (by rw [rows_len zC_len]; omega)] at this
  rw [rowL, hn]
  exact this
theorem refRange15 (l : List Mem) (tl : List Top) (s : HS) (hl : l.length ≤ 1000000) (htl : tl.length ≤ 1000000) (htp : ∀ m ∈ l, (m.tp.getD []).length ≤ 1000000000) :
    HC Tryz.prog 75 [rowL memC 2 l, rowL topC 2 tl] s (fun v s' => s' = s ∧ ((¬ okA l tl ∧ v = .tup [nilV, .lit (.int .i64 1)]) ∨ (okA l tl ∧ ∃ o : Option DD, o.getD [] = shD rangeA l tl ∧ v = .tup [rowV shE 2 o, .lit (.int .i64 0)]))) := by
  refine HC.weaken (HC75 ?_)
  unfold c75
  refine (may30 l tl s hl htl).mono ?_
  rintro v t ⟨rfl, b, rfl, hb⟩
  cases b with
  | false =>
    simp only [vUn, Bool.not_false, bindO, hcond]
    exact ⟨t, le_refl' t, rfl, .inl ⟨fun h => (by cases hb.2 h), by trivial⟩⟩
  | true =>
    have hok := hb.1 rfl
    have hpt := parts_ok hok.1
    simp only [vUn, Bool.not_true, bindO, hcond]
    refine (refMembers31 l t hl).mono ?_
    rintro v t' ⟨rfl, om, rfl, hom⟩
    refine (slots23 tl t' htl fun x hx => (hpt x hx).2).mono ?_
    rintro v t'' ⟨rfl, os, rfl, hos⟩
    have hmsl : (isM l).length = l.length := isort_len Mem.id l
    have htsl : (isT tl).length = tl.length := isort_len Top.name tl
    have hmp : ∀ m ∈ isM l, (m.tp.getD []).length ≤ 1000000000 := fun m hm => htp m ((isort_perm Mem.id l).mem_iff.1 hm)
    have htsp : ∀ x ∈ isT tl, 0 ≤ x.parts ∧ x.parts ≤ 1000 := fun x hx => hpt x ((isort_perm Top.name tl).mem_iff.1 hx)
    have hrefD := shD_refD rangeA l tl (whoR (isM l) (isT tl)) (fun i => sh_range (isM l) i (isT tl))
    have hwl := whoR_len (isM l) (isT tl)
    have hsl := slots_len (isT tl) fun x hx => (htsp x hx).2
    have hst := slots_take_le (isT tl)
    have lo : ∀ t, vLenT (Tryz.prog.underlying 46) t (rowV slC 2 os) = some (.lit (.int .i64 (((slotsOf (isT tl)).length : Nat) : Int))) := fun t => by rw [← hos]; exact len_rowV os t
    have hom' : isort Mem.id l = isM l := rfl
    rw [hom'] at hom
    simp only [lo]
    obtain ⟨n, hn⟩ : ∃ n, (slotsOf (isT tl)).length = n := ⟨_, rfl⟩
    rw [hn] at hwl hsl hst lo
    rw [hn]
    refine make_z (by omega) fun q hq => ?_
    refine HLoop.ghost (σ := Nat) (fun i => [.lit (.int .i64 (i : Int))]) (fun i u => i ≤ n ∧ HS.le t'' u ∧ u q = some (.cells (rows zC (List.replicate i (-1) ++ List.replicate (n - i) 0)))) (fun i => n - i) 0 rfl ⟨Nat.zero_le _, le_set_new _ (le_refl' t'') hq, by rw [set_at]; simp⟩ ?_
    rintro i u K ⟨h1, h2, h3⟩ hK
    simp only [List.headD_cons, lo, lss_i]
    by_cases hi : i < n
    · simp only [hi, decide_true, idx_z hi]
      refine store_z h3 (by simp; omega) ?_
      simp only [inc_i hi (by omega)]
      refine hK (i + 1) _ _ rfl ⟨hi, le_set_free _ h2 hq, ?_⟩ (by omega)
      rw [set_at]
      have e := set_rep (List.replicate i (-1)) (n - (i + 1)) 0 (-1)
      rw [List.length_replicate, show n - (i + 1) + 1 = n - i by omega] at e
      rw [e, ← List.replicate_succ']
    · obtain rfl : i = n := by omega
      rw [Nat.sub_self, List.replicate_zero, List.append_nil] at h3
      simp only [hi, decide_false]
      refine (refTopics32 tl u htl).mono ?_
      rintro v u' ⟨rfl, ot, rfl, hot⟩
      have hot' : isort Top.name tl = isT tl := rfl
      rw [hot'] at hot
      generalize isT tl = ts at *
      generalize isM l = ms at *
      have i1 := fun j hj => idx_rl memC_len m0 hom (i := j) hj
      have i2 := fun j hj => idx_rl topC_len t0 hot (i := j) hj
      have l1 : ∀ t, vLenT (Tryz.prog.underlying 111) t (rowV memC 2 om) = some (.lit (.int .i64 ((ms.length : Nat) : Int))) := fun t => by rw [← hom]; exact len_rowV om t
      have l2 : ∀ t, vLenT (Tryz.prog.underlying 41) t (rowV topC 2 ot) = some (.lit (.int .i64 ((ts.length : Nat) : Int))) := fun t => by rw [← hot]; exact len_rowV ot t
      have lT : ∀ (m : Mem) (w : HS), vLoad w (.elt (memC m) (0 + 1)) 1 false = some (rowV strC 1 m.tp) := fun m w => rfl
      have lN : ∀ (m : Top) (w : HS), vLoad w (.elt (topC m) (0 + 0)) 1 false = some (strV m.name) := fun m w => rfl
      have lP : ∀ (m : Top) (w : HS), vLoad w (.elt (topC m) (0 + 1)) 1 false = some (.lit (.int .i64 m.parts)) := fun m w => rfl
      refine HLoop.ghost (σ := Nat) (fun a => [.lit (.int .i64 (((slotsOf (ts.take a)).length : Nat) : Int)), .lit (.int .i64 (a : Int))]) (fun a w => a ≤ ts.length ∧ HS.le t'' w ∧ w q = some (.cells (rows zC (whoR ms (ts.take a) ++ List.replicate (i - (slotsOf (ts.take a)).length) (-1))))) (fun a => ts.length - a) 0 rfl ⟨Nat.zero_le _, h2, h3⟩ ?_
      rintro a w K21 ⟨k1, k2, k3⟩ hK21
      simp only [List.headD_cons, List.tail_cons, l2, lss_i]
      by_cases ha : a < ts.length
      · have hwt := whoR_take ms ts ha
        have hst' := slotsOf_take ts ha
        have hst1 := hst (a + 1)
        have hwl' := whoR_len ms (ts.take a)
        obtain ⟨p0, p1⟩ := htsp _ (getD_memD t0 ha)
        have hK21' : ∀ w', HS.le t'' w' → w' q = some (.cells (rows zC (whoR ms (ts.take (a + 1)) ++ List.replicate (i - (slotsOf (ts.take (a + 1))).length) (-1)))) → K21 [.lit (.int .i64 (((slotsOf (ts.take (a + 1))).length : Nat) : Int)), .lit (.int .i64 ((a + 1 : Nat) : Int))] w' := fun w' g1 g2 => hK21 (a + 1) _ _ rfl ⟨ha, g1, g2⟩ (by omega)
        simp only [ha, decide_true, i2 a ha, vField]
        generalize ts.getD a t0 = T at *
        obtain ⟨tn, pz⟩ := T
        obtain ⟨np, rfl⟩ : ∃ np : Nat, pz = (np : Int) := ⟨pz.toNat, by simp only at p0; omega⟩
        simp only [Int.toNat_natCast] at hwt hst' p0 p1
        have hl1 : (slotsOf (ts.take (a + 1))).length = (slotsOf (ts.take a)).length + np := by rw [hst']; simp
        rw [hl1] at hst1 hK21'
        rw [hwt] at hK21'
        generalize whoR ms (ts.take a) = pre at *
        generalize (slotsOf (ts.take a)).length = at_ at *
        clear hst' hwt hK21
        refine HLoop.ghost (σ := HV × Nat) (fun g => [g.1, .lit (.int .i64 (g.2 : Int))]) (fun g v => g.2 ≤ ms.length ∧ HS.le w v ∧ Acc w v 1 g.1 (whoOf ms ⟨tn, np⟩ g.2).length (rows intC (whoOf ms ⟨tn, np⟩ g.2))) (fun g => ms.length - g.2) (nilV, 0) rfl ⟨Nat.zero_le _, le_refl' w, Acc.nil _ _ _⟩ ?_
        rintro ⟨H, m⟩ v K26 ⟨m1, m2, m3⟩ hK26
        simp only at m1 m3
        simp only [List.headD_cons, List.tail_cons, l1, lss_i]
        by_cases hm : m < ms.length
        · have hsucc := whoOf_succ ms ⟨tn, (np : Int)⟩ m
          have hwo := whoOf_len ms ⟨tn, (np : Int)⟩ m
          have hmt := hmp (ms.getD m m0) (getD_memD m0 hm)
          simp only [hm, decide_true, i1 m hm, lT, lN]
          refine Join.of (fun xs w' => ∃ H', xs = [H'] ∧ HS.le w w' ∧ Acc w w' 1 H' (whoOf ms ⟨tn, np⟩ (m + 1)).length (rows intC (whoOf ms ⟨tn, np⟩ (m + 1)))) ?_ ?_
          · rintro _ w' ⟨H', rfl, g1, g2⟩
            simp only [List.headD_cons, inc_i hm (by omega)]
            exact hK26 (H', m + 1) _ _ rfl ⟨hm, g1, g2⟩ (by show ms.length - (m + 1) < ms.length - m; omega)
          · intro K31 hK31
            refine (has16 (ms.getD m m0).tp tn v (by omega)).mono ?_
            rintro x v' ⟨rfl, rfl⟩
            have hcd : decide (tn ∈ (ms.getD m m0).tp.getD []) = ((ms.getD m m0).tp.getD []).contains tn := by
              rw [Bool.eq_iff_iff]; simp
            rw [hcd]
            cases hc : ((ms.getD m m0).tp.getD []).contains tn with
            | false =>
              rw [hc] at hsucc
              simp only [Bool.false_eq_true, if_false, List.append_nil] at hsucc
              exact hK31 _ _ ⟨H, rfl, m2, by rw [hsucc]; exact m3⟩
            | true =>
              rw [hc] at hsucc
              simp only [if_true] at hsucc
              refine m3.app1 m2 (vs := intC m) rfl rfl rfl ⟨by omega, by omega⟩ fun H' w3 g1 g2 g3 => ?_
              refine hK31 _ _ ⟨H', rfl, g2, ?_⟩
              rw [hsucc, rows_app, rows_one, List.length_append]
              exact g1
        · obtain rfl : m = ms.length := by omega
          simp only [hm, decide_false]
          have hwo := whoOf_len ms ⟨tn, (np : Int)⟩ ms.length
          obtain ⟨who, hwho⟩ : ∃ who, whoOf ms ⟨tn, (np : Int)⟩ ms.length = who := ⟨_, rfl⟩
          rw [hwho] at m3 hwo hK21'
          obtain ⟨bW, hb1, hb2, hbq, hWl⟩ : ∃ bW, HS.le t'' bW ∧ HS.le bW v ∧ bW q = none ∧ RowV bW 1 H who.length (rows intC who) := by
            rcases m3 with ⟨e1, e2, e3⟩ | ⟨h, f, e1, rfl, e3, e4, e5⟩
            · exact ⟨t'', le_refl' _, HS.le.trans k2 m2, hq, .inl ⟨e1, e2, e3⟩⟩
            · have hne : q ≠ h := by rintro rfl; rw [k3] at e1; cases e1
              exact ⟨t''.set h (.cells (rows intC who)), le_set_new _ (le_refl' _) (none_of_le k2 e1), le_set_both (HS.le.trans k2 m2) e3, by rw [set_ne _ _ hne]; exact hq, .inr ⟨h, f, rfl, set_at _ _ _, e4⟩⟩
          have k3' := m2 _ _ k3
          clear m3 m2
          have lH : ∀ t, vLenT (Tryz.prog.underlying 75) t H = some (.lit (.int .i64 ((who.length : Nat) : Int))) := fun t => hWl.len _ _
          refine HLoop.ghost (σ := Nat) (fun j => [.lit (.int .i64 ((cum np who.length j : Nat) : Int)), .lit (.int .i64 (j : Int))]) (fun j z => j ≤ who.length ∧ HS.le bW z ∧ z q = some (.cells (rows zC (pre ++ ownT np who j ++ List.replicate (i - at_ - cum np who.length j) (-1))))) (fun j => who.length - j) 0 rfl ⟨Nat.zero_le _, hb2, by rw [k3']; simp [ownT, cum]⟩ ?_
          rintro j z K47 ⟨j1, j2, j3⟩ hK47
          simp only [List.headD_cons, List.tail_cons, lH, lss_i]
          by_cases hj : j < who.length
          · have hcn := cum_le' (parts := np) (show j + 1 ≤ who.length from hj)
            have hcs : cum np who.length (j + 1) = cum np who.length j + cnt np who.length j := rfl
            have hdv : np / who.length ≤ np := Nat.div_le_self _ _
            simp only [hj, decide_true, lP, quo_i (show 0 < who.length by omega) (show np < 9223372036854775808 by omega)]
            refine Join.of (fun xs w' => w' = z ∧ xs = [.lit (.int .i64 ((cnt np who.length j : Nat) : Int))]) ?_ ?_
            rotate_left
            · intro K57 hK57
              simp only [rem_i (show 0 < who.length by omega), lss_i]
              by_cases hr : j < np % who.length
              · simp only [hr, decide_true]
                rw [wlit1, add_i (by omega)]
                exact hK57 _ _ ⟨rfl, by rw [cnt, if_pos hr]⟩
              · simp only [hr, decide_false]
                exact hK57 _ _ ⟨rfl, by rw [cnt, if_neg hr]; rfl⟩
            rintro _ w' ⟨rfl, rfl⟩
            simp only [List.headD_cons]
            refine HLoop.ghost (σ := Nat) (fun k => [.lit (.int .i64 ((cum np who.length j + k : Nat) : Int)), .lit (.int .i64 (k : Int))]) (fun k z => k ≤ cnt np who.length j ∧ HS.le bW z ∧ z q = some (.cells (rows zC (pre ++ ownT np who j ++ List.replicate k ((who.getD j 0 : Nat) : Int) ++ List.replicate (i - at_ - cum np who.length j - k) (-1))))) (fun k => cnt np who.length j - k) 0 rfl ⟨Nat.zero_le _, j2, by rw [j3]; simp⟩ ?_
            rintro k z K67 ⟨x1, x2, x3⟩ hK67
            simp only [List.headD_cons, List.tail_cons, lss_i]
            by_cases hk : k < cnt np who.length j
            · obtain ⟨qw, y1, y2⟩ := hWl.at_ (enc := intC) (sz := 1) (fun _ => rfl) 0 hj
              have lw0 : vLoad z (.ptr qw (j * 1)) 1 false = some (.lit (.int .i64 ((who.getD j 0 : Nat) : Int))) := by have := (y2 z x2).2 0 (Nat.lt_succ_self 0) 1; rw [Nat.add_zero] at this; exact this
              have hlt : at_ + (cum np who.length j + k) < i := by omega
              simp only [hk, decide_true]
              rw [add_i (show at_ + (cum np who.length j + k) < 9223372036854775808 by omega)]
              simp only [y1, lw0, idx_z hlt]
              have hpl : (pre ++ ownT np who j ++ List.replicate k ((who.getD j 0 : Nat) : Int)).length = at_ + (cum np who.length j + k) := by
                rw [List.length_append, List.length_append, ownT_len, List.length_replicate, hwl']; omega
              refine store_z x3 (by rw [List.length_append, hpl, List.length_replicate]; omega) ?_
              rw [wlit1, add_i (by omega), add_i (by omega)]
              refine hK67 (k + 1) _ _ (by rw [Nat.add_assoc]) ⟨hk, le_set_free _ x2 hbq, ?_⟩ (by omega)
              rw [set_at]
              have e := set_rep (pre ++ ownT np who j ++ List.replicate k ((who.getD j 0 : Nat) : Int)) (i - at_ - cum np who.length j - (k + 1)) (-1) ((who.getD j 0 : Nat) : Int)
              rw [hpl, show i - at_ - cum np who.length j - (k + 1) + 1 = i - at_ - cum np who.length j - k by omega] at e
              rw [e, List.append_assoc _ (List.replicate k _), ← List.replicate_succ']
            · obtain rfl : k = cnt np who.length j := by omega
              simp only [hk, decide_false, inc_i hj (by omega)]
              refine hK47 (j + 1) _ _ (by rw [hcs]) ⟨hj, x2, ?_⟩ (by omega)
              rw [x3, ownT_succ, hcs, ← List.append_assoc, Nat.sub_sub (i - at_)]
          · obtain rfl : j = who.length := by omega
            simp only [hj, decide_false, lP]
            rw [add_i (show at_ + np < 9223372036854775808 by omega)]
            simp only [inc_i ha (by omega)]
            refine hK21' _ (HS.le.trans hb1 j2) ?_
            have hcl := cum_le' (parts := np) (Nat.le_refl who.length)
            rw [j3, whoT]
            congr 2
            simp only [List.append_assoc]
            congr 2
            rw [List.replicate_append_replicate]
            rw [show i - at_ - cum np who.length who.length = np - cum np who.length who.length + (i - (at_ + np)) by omega]
      · obtain rfl : a = ts.length := by omega
        simp only [ha, decide_false]
        rw [List.take_length, hn, Nat.sub_self, List.replicate_zero, List.append_nil] at k3
        refine HC.upArgs (up_who k3 hwl k2 hq (fun cs => by cases om <;> rfl) (fun cs => by cases os <;> rfl)) ?_
        refine (shares33 om os (whoR ms ts) t'' (by rw [hos, hn]; exact hwl) (by rw [hom]; omega) (by rw [hos]; omega)).mono ?_
        rintro v t3 ⟨rfl, o, rfl, ho⟩
        refine ⟨t3, le_refl' _, rfl, .inr ⟨hok, o, ?_, rfl⟩⟩
        rw [ho, hom, hos, hrefD]
end Go.Proofs.YtkcgokkgefgcjaaGreatDoor.AS
end
section
namespace Go.Proofs.YtkcgokkgefgcjaaGreatDoor.AS
open Go.Proofs.YtkcgokkgefgcjaaGreatDoor.H Go.Proofs.YtkcgokkgefgcjaaGreatDoor.G0 Go.Proofs.YtkcgokkgefgcjaaGreatDoor.G1
set_option linter.unusedVariables false
set_option linter.unusedSimpArgs false
set_option maxRecDepth 100000
theorem rrG_take (ms : List Mem) (xs : List Slot) {i : Nat} (hi : i < xs.length) : rrG ms (xs.take (i + 1)) = rrStep ms (rrG ms (xs.take i)) (xs.getD i ([], 0)) := by
  rw [take_succ' ([], 0) xs hi, rrG_snoc]
theorem refRR18 (l : List Mem) (tl : List Top) (s : HS) (hl : l.length ≤ 1000000) (htl : tl.length ≤ 1000000) (htp : ∀ m ∈ l, (m.tp.getD []).length ≤ 1000000000) :
    HC Tryz.prog 74 [rowL memC 2 l, rowL topC 2 tl] s (fun v s' => s' = s ∧ ((¬ okA l tl ∧ v = .tup [nilV, .lit (.int .i64 1)]) ∨ (okA l tl ∧ ∃ o : Option DD, o.getD [] = shD roundA l tl ∧ v = .tup [rowV shE 2 o, .lit (.int .i64 0)]))) := by
  refine HC.weaken (HC74 ?_)
  unfold c74
  refine (may30 l tl s hl htl).mono ?_
  rintro v t ⟨rfl, b, rfl, hb⟩
  cases b with
  | false =>
    simp only [vUn, Bool.not_false, bindO, hcond]
    exact ⟨t, le_refl' t, rfl, .inl ⟨fun h => (by cases hb.2 h), by trivial⟩⟩
  | true =>
    have hok := hb.1 rfl
    have hpt := parts_ok hok.1
    simp only [vUn, Bool.not_true, bindO, hcond]
    refine (refMembers31 l t hl).mono ?_
    rintro v t' ⟨rfl, om, rfl, hom⟩
    refine (slots23 tl t' htl fun x hx => (hpt x hx).2).mono ?_
    rintro v t'' ⟨rfl, os, rfl, hos⟩
    have hmsl : (isM l).length = l.length := isort_len Mem.id l
    have htsl : (isT tl).length = tl.length := isort_len Top.name tl
    have hmp : ∀ m ∈ isM l, (m.tp.getD []).length ≤ 1000000000 := fun m hm => htp m ((isort_perm Mem.id l).mem_iff.1 hm)
    have htsp : ∀ x ∈ isT tl, 0 ≤ x.parts ∧ x.parts ≤ 1000 := fun x hx => hpt x ((isort_perm Top.name tl).mem_iff.1 hx)
    have hrefD := shD_refD roundA l tl (rrG (isM l) (slotsOf (isT tl))).2 (fun i => sh_round (isM l) (isT tl) i)
    have hsl := slots_len (isT tl) fun x hx => (htsp x hx).2
    have lo : ∀ t, vLenT (Tryz.prog.underlying 46) t (rowV slC 2 os) = some (.lit (.int .i64 (((slotsOf (isT tl)).length : Nat) : Int))) := fun t => by rw [← hos]; exact len_rowV os t
    have i2 := fun j hj => idx_rl slC_len ([], 0) hos (i := j) hj
    have hom' : isort Mem.id l = isM l := rfl
    rw [hom'] at hom
    generalize slotsOf (isT tl) = xs at *
    generalize isM l = ms at *
    have hwl := (rrG_eq ms xs).2.1
    have hwk := fun k => (rrG_eq ms (xs.take k)).2.1
    have hnk : ∀ k, (rrG ms (xs.take k)).1 ≤ ms.length := fun k => by
      rw [(rrG_eq ms (xs.take k)).1]
      exact (roundG_le ms (xs.take k) (0, []) (Nat.zero_le _)).1
    simp only [lo]
    refine make_z (by omega) fun q hq => ?_
    have i1 := fun j hj => idx_rl memC_len m0 hom (i := j) hj
    have l1 : ∀ t, vLenT (Tryz.prog.underlying 111) t (rowV memC 2 om) = some (.lit (.int .i64 ((ms.length : Nat) : Int))) := fun t => by rw [← hom]; exact len_rowV om t
    have lT : ∀ (m : Mem) (w : HS), vLoad w (.elt (memC m) (0 + 1)) 1 false = some (rowV strC 1 m.tp) := fun m w => rfl
    have lN : ∀ (x : Slot) (w : HS), vLoad w (.elt (slC x) (0 + 0)) 1 false = some (strV x.1) := fun x w => rfl
    refine HLoop.ghost (σ := Nat) (fun k => [.lit (.int .i64 (((rrG ms (xs.take k)).1 : Int) - 1)), .lit (.int .i64 (k : Int))]) (fun k u => k ≤ xs.length ∧ HS.le t'' u ∧ u q = some (.cells (rows zC ((rrG ms (xs.take k)).2 ++ List.replicate (xs.length - k) 0)))) (fun k => xs.length - k) 0 rfl ⟨Nat.zero_le _, le_set_new _ (le_refl' t'') hq, by rw [set_at]; simp [rrG]⟩ ?_
    rintro k u K ⟨h1, h2, h3⟩ hK
    simp only [List.headD_cons, List.tail_cons, lo, lss_i]
    by_cases hk : k < xs.length
    · have htk := rrG_take ms xs hk
      have hwk0 := hwk k
      rw [List.length_take, Nat.min_eq_left h1] at hwk0
      have hnk0 := hnk k
      have hix := i2 k hk
      have hK' : ∀ w, HS.le t'' w → w q = some (.cells (rows zC ((rrG ms (xs.take (k + 1))).2 ++ List.replicate (xs.length - (k + 1)) 0))) → K [.lit (.int .i64 (((rrG ms (xs.take (k + 1))).1 : Int) - 1)), .lit (.int .i64 ((k + 1 : Nat) : Int))] w := fun w g1 g2 => hK (k + 1) _ _ rfl ⟨hk, g1, g2⟩ (by omega)
      rw [htk] at hK'
      simp only [hk, decide_true, idx_z hk]
      generalize xs.getD k ([], 0) = x at *
      generalize rrG ms (xs.take k) = G at *
      obtain ⟨next, W⟩ := G
      simp only at hwk0 hnk0 h3
      clear hK htk
      have esr := fun v => set_rep W (xs.length - (k + 1)) 0 v
      rw [hwk0, show xs.length - (k + 1) + 1 = xs.length - k by omega] at esr
      refine Join.of (fun ys w => HS.le t'' w ∧ w q = some (.cells (rows zC ((rrStep ms (next, W) x).2 ++ List.replicate (xs.length - (k + 1)) 0))) ∧ ys = [.lit (.int .i64 (((rrStep ms (next, W) x).1 : Int) - 1))]) ?_ ?_
      · rintro _ w ⟨g1, g2, rfl⟩
        simp only [List.headD_cons, inc_i hk (by omega)]
        exact hK' w g1 g2
      · intro K16 hK16
        refine store_z h3 (by rw [List.length_append, hwk0, List.length_replicate]; omega) ?_
        rw [esr]
        have g2 := le_set_free (.cells (rows zC (W ++ [-1] ++ List.replicate (xs.length - (k + 1)) 0))) h2 hq
        have g3 := set_at u q (.cells (rows zC (W ++ [-1] ++ List.replicate (xs.length - (k + 1)) 0)))
        generalize u.set q (.cells (rows zC (W ++ [-1] ++ List.replicate (xs.length - (k + 1)) 0))) = u1 at *
        refine HLoop.ghost (σ := Nat) (fun j => [.lit (.int .i64 ((next : Int) - 1)), .lit (.int .i64 ((j + 1 : Nat) : Int))]) (fun j v => j ≤ ms.length ∧ v = u1 ∧ ∀ i, i < j → hasT ms x.1 ((next + i) % ms.length) = false) (fun j => ms.length - j) 0 rfl ⟨Nat.zero_le _, rfl, fun i hi => absurd hi (Nat.not_lt_zero _)⟩ ?_
        rintro j v K21 ⟨j1, rfl, j2⟩ hK21
        simp only [List.headD_cons, List.tail_cons, l1, leq_n]
        by_cases hj : j < ms.length
        · have hmod : (next + j) % ms.length < ms.length := Nat.mod_lt _ (by omega)
          rw [show decide (((j + 1 : Nat) : Int) ≤ (ms.length : Int)) = true from by simp; omega]
          simp only
          rw [add_n (a := (next : Int) - 1) (b := ((j + 1 : Nat) : Int)) (by omega) (by omega), show ((next : Int) - 1 + ((j + 1 : Nat) : Int)) = ((next + j : Nat) : Int) by omega]
          simp only
          rw [add_i (show next + j + ms.length < 9223372036854775808 by omega)]
          simp only [rem_i (show 0 < ms.length by omega), Nat.add_mod_right, i1 _ hmod, vField, lT, hix, lN]
          have hmt := hmp _ (getD_memD m0 hmod)
          refine (has16 (ms.getD ((next + j) % ms.length) m0).tp x.1 v (by omega)).mono ?_
          rintro r w ⟨rfl, rfl⟩
          have hcd : decide (x.1 ∈ (ms.getD ((next + j) % ms.length) m0).tp.getD []) = hasT ms x.1 ((next + j) % ms.length) := by
            unfold hasT
            rw [Bool.eq_iff_iff]; simp
          rw [hcd]
          cases hc : hasT ms x.1 ((next + j) % ms.length) with
          | false =>
            simp only
            rw [wlit1, add_i (show j + 1 + 1 < 9223372036854775808 by omega)]
            refine hK21 (j + 1) _ _ rfl ⟨hj, rfl, fun i hi => ?_⟩ (by omega)
            rcases Nat.lt_succ_iff_lt_or_eq.1 hi with hi | rfl
            · exact j2 i hi
            · exact hc
          | true =>
            have hpk := pick_some hj j2 hc
            simp only [idx_z hk]
            refine store_z g3 (by simp; omega) ?_
            have e2 : (W ++ [-1] ++ List.replicate (xs.length - (k + 1)) (0 : Int)).set k (((next + j) % ms.length : Nat) : Int) = W ++ [(((next + j) % ms.length : Nat) : Int)] ++ List.replicate (xs.length - (k + 1)) 0 := by
              rw [List.append_assoc, List.set_append_right _ _ (by omega), hwk0, Nat.sub_self, List.append_assoc]
              rfl
            rw [e2]
            have hs : rrStep ms (next, W) x = ((next + j) % ms.length + 1, W ++ [(((next + j) % ms.length : Nat) : Int)]) := by
              unfold rrStep
              simp only [hpk]
            rw [hs] at hK16
            refine hK16 _ _ ⟨le_set_free _ g2 hq, set_at _ _ _, ?_⟩
            congr 3
            simp only
            omega
        · obtain rfl : j = ms.length := by omega
          rw [show decide (((ms.length + 1 : Nat) : Int) ≤ (ms.length : Int)) = false from by rw [decide_eq_false_iff_not]; omega]
          simp only
          have hpk := pick_no j2
          have hs : rrStep ms (next, W) x = (next, W ++ [-1]) := by
            unfold rrStep
            simp only [hpk]
          rw [hs] at hK16
          exact hK16 _ _ ⟨g2, g3, rfl⟩
    · obtain rfl : k = xs.length := by omega
      simp only [hk, decide_false]
      rw [List.take_length, Nat.sub_self, List.replicate_zero, List.append_nil] at h3
      refine HC.upArgs (up_who h3 hwl h2 hq (fun cs => by cases om <;> rfl) (fun cs => by cases os <;> rfl)) ?_
      refine (shares33 om os (rrG ms xs).2 t'' (by rw [hos]; exact hwl) (by rw [hom]; omega) (by rw [hos]; omega)).mono ?_
      rintro v t3 ⟨rfl, o, rfl, ho⟩
      refine ⟨t3, le_refl' _, rfl, .inr ⟨hok, o, ?_, rfl⟩⟩
      rw [ho, hom, hos, hrefD]
end Go.Proofs.YtkcgokkgefgcjaaGreatDoor.AS
end
section
namespace Go.Proofs.YtkcgokkgefgcjaaGreatDoor.AS
open Go.Proofs.YtkcgokkgefgcjaaGreatDoor.H Go.Proofs.YtkcgokkgefgcjaaGreatDoor.G0 Go.Proofs.YtkcgokkgefgcjaaGreatDoor.G1
set_option linter.unusedVariables false
set_option linter.unusedSimpArgs false
set_option maxRecDepth 100000
theorem round9 {k : Int} {n : Nat} (hn : 0 < n) (hn' : n ≤ 1000000) (s : HS) : HC Tryz.prog 8 [.lit (.int .i64 k), .lit (.int .i64 (n : Int))] s (fun v s' => s' = s ∧ v = .lit (.int .i64 (((k % (n : Int)).toNat : Nat) : Int))) := by
  refine HC8 ?_
  unfold c8
  have h0 : ¬ (n : Int) = 0 := by omega
  have h1 := Int.emod_nonneg k (b := (n : Int)) (by omega)
  have h2 := Int.emod_lt_of_pos k (b := (n : Int)) (by omega)
  have h3 := Int.tmod_eq_emod (a := k) (b := (n : Int))
  simp only [vBin, if_true, if_neg h0, bindO]
  have h4 : k.tmod (n : Int) = k % (n : Int) ∨ k.tmod (n : Int) = k % (n : Int) - n := by
    rw [h3]
    split
    · left; omega
    · right; simp
  have h5 : k.tmod (n : Int) < 0 → k.tmod (n : Int) = k % (n : Int) - n := fun h => by omega
  have h6 : ¬ k.tmod (n : Int) < 0 → k.tmod (n : Int) = k % (n : Int) := fun h => by omega
  refine Join.of (fun xs t => t = s ∧ xs = [.lit (.int .i64 (((k % (n : Int)).toNat : Nat) : Int))]) ?_ ?_
  · rintro _ t ⟨rfl, rfl⟩
    exact ⟨rfl, rfl⟩
  · intro K hK
    by_cases hc : k.tmod (n : Int) < 0
    · simp only [hc, decide_true, hcond]
      rw [w64 (by omega) (by omega)]
      refine hK _ _ ⟨rfl, ?_⟩
      congr 3
      omega
    · simp only [hc, decide_false, hcond]
      refine hK _ _ ⟨rfl, ?_⟩
      congr 3
      omega
def wantL (l : List Mem) (nm : By) : Bool := l.any fun m => decide (nm ∈ m.tp.getD [])
theorem wanted_eq (ms : List Mem) (nm : By) : wanted ms nm = wantL ms nm := by
  rw [Bool.eq_iff_iff]
  unfold wanted wantL hasT
  simp only [List.any_eq_true, List.mem_range, decide_eq_true_eq]
  constructor
  · rintro ⟨i, hi, h⟩
    exact ⟨_, getD_memD m0 hi, List.contains_iff_mem.1 h⟩
  · rintro ⟨m, hm, h⟩
    obtain ⟨i, hi, rfl⟩ := List.mem_iff_getElem.1 hm
    exact ⟨i, hi, by rw [getD_get _ _ hi]; exact List.contains_iff_mem.2 h⟩
theorem wantL_perm {l l' : List Mem} (h : l'.Perm l) (nm : By) : wantL l' nm = wantL l nm := by
  rw [Bool.eq_iff_iff]
  unfold wantL
  simp only [List.any_eq_true]
  exact ⟨fun ⟨m, hm, h'⟩ => ⟨m, h.mem_iff.1 hm, h'⟩, fun ⟨m, hm, h'⟩ => ⟨m, h.mem_iff.2 hm, h'⟩⟩
theorem neq_b (a b : Bool) : vCmp (Tryz.prog.underlying 4) .neq (.lit (.bool a)) (.lit (.bool b)) = some (.lit (.bool (!(a == b)))) := by
  rw [Tryz.underlying4]; rfl
end Go.Proofs.YtkcgokkgefgcjaaGreatDoor.AS
end
section
namespace Go.Proofs.YtkcgokkgefgcjaaGreatDoor.AS
open Go.Proofs.YtkcgokkgefgcjaaGreatDoor.H Go.Proofs.YtkcgokkgefgcjaaGreatDoor.G0 Go.Proofs.YtkcgokkgefgcjaaGreatDoor.G1
set_option linter.unusedVariables false
set_option linter.unusedSimpArgs false
set_option maxRecDepth 100000
theorem find_none' {α : Type} {p : α → Bool} {l : List α} (h : ∀ x ∈ l, p x = false) : l.find? p = none := List.find?_eq_none.2 fun x hx => by rw [h x hx]; simp
theorem refOf22 (o : Option DD) (k : By) (s : HS) (hl : (o.getD []).length ≤ 1000000000) : HC Tryz.prog 54 [rowV shE 2 o, strV k] s (fun v s' => s' = s ∧ v = slV (ofD (o.getD []) k)) := by
  refine HC54 ?_
  unfold c54
  have i1 := fun i hi => idx_rowV shE_len d0 o (i := i) hi
  have l1 := fun t => len26 o t
  generalize o.getD [] = D at *
  refine HLoop.ghost (σ := Nat) (fun i => [.lit (.int .i64 (i : Int))]) (fun i t => i ≤ D.length ∧ t = s ∧ ∀ d ∈ D.take i, (d.1 == k) = false) (fun i => D.length - i) 0 rfl ⟨Nat.zero_le _, rfl, by simp⟩ ?_
  rintro i t K ⟨h1, rfl, h3⟩ hK
  simp only [List.headD_cons, l1, bindO, lss_i]
  by_cases hi : i < D.length
  · have hts := take_succ' d0 D hi
    have hf := fun h => find_none_take (p := fun d => d.1 == k) d0 hi h3 h
    simp only [hi, decide_true, hcond, i1 i hi, vField, lw, ls, eql_s]
    generalize D.getD i d0 = d at *
    by_cases he : d.1 = k
    · simp only [he, decide_true]
      refine ⟨trivial, ?_⟩
      rw [ofD, hf (by simp [he])]
    · simp only [he, decide_false, inc_i hi (by omega)]
      refine hK (i + 1) _ _ rfl ⟨hi, rfl, fun x hx => ?_⟩ (by omega)
      rw [hts] at hx
      rcases List.mem_append.1 hx with hx | hx
      · exact h3 x hx
      · rw [List.mem_singleton.1 hx]; simpa using he
  · obtain rfl : i = D.length := by omega
    rw [List.take_length] at h3
    simp only [hi, decide_false, hcond]
    refine ⟨trivial, ?_⟩
    rw [ofD, find_none' h3]
    rfl
end Go.Proofs.YtkcgokkgefgcjaaGreatDoor.AS
end
section
namespace Go.Proofs.YtkcgokkgefgcjaaGreatDoor.AS
open Go.Proofs.YtkcgokkgefgcjaaGreatDoor.H Go.Proofs.YtkcgokkgefgcjaaGreatDoor.G0 Go.Proofs.YtkcgokkgefgcjaaGreatDoor.G1
set_option linter.unusedVariables false
set_option linter.unusedSimpArgs false
set_option maxRecDepth 100000
open Classical in
noncomputable def errI (l : List Mem) (tl : List Top) : Int := if okA l tl then 0 else 1
open Classical in
noncomputable def resD (rg : List Mem → List Top → List (Nat × Slot)) (l : List Mem) (tl : List Top) : DD := if okA l tl then shD rg l tl else []
theorem uni {rg : List Mem → List Top → List (Nat × Slot)} {l : List Mem} {tl : List Top} {v : HV} (h : (¬ okA l tl ∧ v = .tup [nilV, .lit (.int .i64 1)]) ∨ (okA l tl ∧ ∃ o : Option DD, o.getD [] = shD rg l tl ∧ v = .tup [rowV shE 2 o, .lit (.int .i64 0)])) :
    ∃ o : Option DD, o.getD [] = resD rg l tl ∧ v = .tup [rowV shE 2 o, .lit (.int .i64 (errI l tl))] := by
  rcases h with ⟨h1, rfl⟩ | ⟨h1, o, h2, rfl⟩
  · exact ⟨none, by simp [resD, h1], by simp [errI, h1]; rfl⟩
  · exact ⟨o, by rw [h2]; simp [resD, h1], by simp [errI, h1]⟩
theorem shD_bound {rg : List Mem → List Top → List (Nat × Slot)} {l : List Mem} {tl : List Top} (hok : okA l tl) (hg : Good (isM l) (isT tl) (rg (isM l) (isT tl))) : ∀ d ∈ shD rg l tl, d.2.length ≤ 1000 * tl.length := fun d hd => by
  obtain ⟨j, hj, rfl⟩ := List.mem_iff_getElem.1 hd
  rw [shD_len] at hj
  rw [← getD_get d0 _ (by rw [shD_len]; exact hj), shD_get hj]
  have h1 : (shOf (rg (isM l) (isT tl)) j).length ≤ (rg (isM l) (isT tl)).length := by
    unfold shOf
    rw [List.length_map]
    exact List.length_filter_le _ _
  have h2 : (rg (isM l) (isT tl)).length ≤ (slotsOf (isT tl)).length := by
    have := congrArg List.length hg.slots
    rw [List.length_map] at this
    rw [this]
    exact List.length_filter_le _ _
  have h3 := slots_len (isT tl) fun x hx => (parts_ok hok.1 x ((isort_perm Top.name tl).mem_iff.1 hx)).2
  have h4 : (isT tl).length = tl.length := isort_len Top.name tl
  show (shOf (rg (isM l) (isT tl)) j).length ≤ _
  omega
theorem resD_bound {rg : List Mem → List Top → List (Nat × Slot)} (l : List Mem) (tl : List Top) (hg : Good (isM l) (isT tl) (rg (isM l) (isT tl))) : (resD rg l tl).length ≤ l.length ∧ ∀ d ∈ resD rg l tl, d.2.length ≤ 1000 * tl.length := by
  unfold resD
  split
  · rename_i hok
    exact ⟨by rw [shD_len]; exact Nat.le_refl _, shD_bound hok hg⟩
  · exact ⟨Nat.zero_le _, fun d hd => (by cases hd)⟩
end Go.Proofs.YtkcgokkgefgcjaaGreatDoor.AS
end
end
