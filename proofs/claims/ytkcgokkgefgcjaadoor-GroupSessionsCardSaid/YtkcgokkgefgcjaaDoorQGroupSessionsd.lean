/- What the proof of the law GroupSessions needs, cut out of the session's own texts by a program (slim.py): part 4. -/
import Derived.Test.YtkcgokkgefgcjaaDoorQGroupSessionsc
section
section
namespace Go.Proofs.YtkcgokkgefgcjaaDoor.AS
open Go.Proofs.YtkcgokkgefgcjaaDoor.H Go.Proofs.YtkcgokkgefgcjaaDoor.G0 Go.Proofs.YtkcgokkgefgcjaaDoor.G1
set_option linter.unusedVariables false
set_option linter.unusedSimpArgs false
set_option maxRecDepth 100000
abbrev By := List UInt8
abbrev bl_ (a b : By) : Bool := Op.bytesLess a b
theorem bl_irrefl : ∀ a : By, bl_ a a = false
  | [] => rfl
  | x :: a => by simp only [bl_, Op.bytesLess]; have := bl_irrefl a; simp [bl_] at this; simp [this]
theorem bl_tri : ∀ a b : By, bl_ a b = false → a = b ∨ bl_ b a = true
  | [], [], _ => .inl rfl
  | [], y :: b, h => by simp [bl_, Op.bytesLess] at h
  | x :: a, [], _ => .inr rfl
  | x :: a, y :: b, h => by
    simp only [bl_, Op.bytesLess, Bool.or_eq_false_iff, Bool.and_eq_false_iff, decide_eq_false_iff_not] at h
    obtain ⟨h1, h2⟩ := h
    by_cases e : x = y
    · subst e
      have h3 : bl_ a b = false := by
        rcases h2 with h2 | h2
        · simp at h2
        · exact h2
      rcases bl_tri a b h3 with rfl | h4
      · exact .inl rfl
      · refine .inr ?_
        simp only [bl_, Op.bytesLess, Bool.or_eq_true, Bool.and_eq_true]
        exact .inr ⟨by simp, h4⟩
    · refine .inr ?_
      simp only [bl_, Op.bytesLess, Bool.or_eq_true, Bool.and_eq_true, decide_eq_true_eq]
      left
      have h5 : ¬ x < y := by simpa using h1
      rcases UInt8.lt_or_lt_of_ne e with h6 | h6
      · exact absurd h6 h5
      · exact h6
theorem bl_trans : ∀ a b c : By, bl_ a b = true → bl_ b c = true → bl_ a c = true
  | _, b, [], _, h => by cases b <;> simp [bl_, Op.bytesLess] at h
  | _, [], z :: c, h, _ => by rename_i a; cases a <;> simp [bl_, Op.bytesLess] at h
  | [], y :: b, z :: c, _, _ => rfl
  | x :: a, y :: b, z :: c, h, k => by
    simp only [bl_, Op.bytesLess, Bool.or_eq_true, Bool.and_eq_true, decide_eq_true_eq, beq_iff_eq] at h k ⊢
    rcases h with h | ⟨rfl, h⟩ <;> rcases k with k | ⟨rfl, k⟩
    · exact .inl (UInt8.lt_trans h k)
    · exact .inl h
    · exact .inl k
    · exact .inr ⟨rfl, bl_trans a b c h k⟩
theorem bl_asymm {a b : By} (h : bl_ a b = true) : bl_ b a = false := by
  cases e : bl_ b a with
  | false => rfl
  | true => have := bl_trans _ _ _ h e; rw [bl_irrefl] at this; cases this
/-- An order by names. -/
theorem ordr_name {α : Type} (nm : α → By) : Ordr fun x y => bl_ (nm x) (nm y) := ⟨fun x y h => bl_asymm h, fun x y w h1 h2 => by
  cases e : bl_ (nm w) (nm x) with
  | false => rfl
  | true =>
    rcases bl_tri _ _ h2 with h3 | h3
    · rw [h3, h1] at e; cases e
    · have := bl_trans _ _ _ h3 e
      rw [h1] at this; cases this⟩
theorem toList_go (s : ByteArray) : ∀ (k i : Nat) (r : List UInt8), s.size - i = k → i ≤ s.size → ByteArray.toList.loop s i r = r.reverse ++ s.data.toList.drop i := by
  intro k
  induction k with
  | zero =>
    intro i r h hi
    have : i = s.size := by omega
    unfold ByteArray.toList.loop
    rw [if_neg (by omega)]
    have e : s.data.toList.drop i = [] := List.drop_of_length_le (by rw [this]; show s.data.toList.length ≤ s.data.size; simp)
    rw [e, List.append_nil]
  | succ k ih =>
    intro i r h hi
    have hlt : i < s.size := by omega
    unfold ByteArray.toList.loop
    rw [if_pos hlt, ih (i + 1) _ (by omega) (by omega)]
    have hlt2 : i < s.data.toList.length := by
      have : s.data.toList.length = s.data.size := by simp
      rw [this]; exact hlt
    rw [List.drop_eq_getElem_cons hlt2, List.reverse_cons, List.append_assoc]
    congr 1
    show [s.data[i]!] ++ _ = _
    rw [getElem!_pos s.data i (by simpa using hlt2)]
    rfl
theorem toList_data (s : ByteArray) : s.toList = s.data.toList := by
  unfold ByteArray.toList
  rw [toList_go s s.size 0 [] (by omega) (by omega)]
  simp
theorem toL (a : By) : (⟨a.toArray⟩ : ByteArray).toList = a := by rw [toList_data]
theorem str_lt (a b : By) : Op.bytesLess (⟨a.toArray⟩ : ByteArray).toList (⟨b.toArray⟩ : ByteArray).toList = bl_ a b := by rw [toL, toL]
def strV (k : By) : HV := .lit (.string ⟨k.toArray⟩)
def strC (k : By) : List HV := [strV k]
structure Mem where
  id : By
  tp : Option (List By)
structure Top where
  name : By
  parts : Int
def memC (m : Mem) : List HV := [strV m.id, rowV strC 1 m.tp]
def topC (t : Top) : List HV := [strV t.name, .lit (.int .i64 t.parts)]
theorem memC_len (m : Mem) : (memC m).length = 2 := rfl
theorem topC_len (m : Top) : (topC m).length = 2 := rfl
theorem memC_one (m : Mem) : ∀ y ∈ memC m, hone y = true := by
  intro y hy
  simp only [memC, List.mem_cons, List.not_mem_nil, or_false] at hy
  rcases hy with rfl | rfl
  · rfl
  · cases m.tp <;> rfl
theorem topC_one (m : Top) : ∀ y ∈ topC m, hone y = true := by
  intro y hy
  simp only [topC, List.mem_cons, List.not_mem_nil, or_false] at hy
  rcases hy with rfl | rfl <;> rfl
def m0 : Mem := ⟨[], none⟩
def t0 : Top := ⟨[], 0⟩
abbrev ltM (a b : Mem) : Bool := bl_ a.id b.id
abbrev ltT (a b : Top) : Bool := bl_ a.name b.name
section
variable {α : Type} {enc : α → List HV} {z : α} {rest : List HV} {s : HS} {q : Nat} {lt : α → α → Bool} {N : Nat} {f : Bool} {cmp : HV}
theorem sym_all {P : Program} {gs : Nat} (step : ∀ (M : List α) (a m b : Nat) (Q : HV → HS → Prop), SymOk P gs enc 2 z lt rest s q N f cmp (b - a) → M.length = N → a < m → m < b → b ≤ N → SO z lt M a m → SO z lt M m b → (∀ M', Kept z M M' a b → SO z lt M' a b → Q (.tup []) (Lay enc rest s q M')) →
    HC P gs [.view q 0 2 N f, .lit (.int .i64 (a : Int)), .lit (.int .i64 (m : Int)), .lit (.int .i64 (b : Int)), cmp] (Lay enc rest s q M) Q) : ∀ d, SymOk P gs enc 2 z lt rest s q N f cmp d
  | 0 => fun M a m b Q h => by omega
  | d + 1 => fun M a m b Q h h1 h2 h3 h4 h5 h6 h7 => step M a m b Q (fun M' a' m' b' Q' k => sym_all step d M' a' m' b' Q' (by omega)) h1 h2 h3 h4 h5 h6 h7
theorem sort53 (z : α) (hO : Ordr lt) (h : ∀ x, (enc x).length = 2) (ho : ∀ x, ∀ y ∈ enc x, hone y = true) (hc : CmpOk Tryd.prog cmp enc lt rest s q) {M : List α} {Q : HV → HS → Prop} (hl : M.length < 1099511627776)
    (hQ : ∀ M', M'.Perm M → M'.Pairwise (fun x y => lt y x = false) → Q (.tup []) (Lay enc rest s q M')) :
    HC Tryd.prog 86 [.view q 0 2 M.length f, cmp] (Lay enc rest s q M) Q := by
  obtain ⟨N, hN⟩ : ∃ N, M.length = N := ⟨_, rfl⟩
  rw [hN] at hl ⊢
  have hw : SwrOk Tryd.prog 101 enc 2 z rest s q N f cmp := fun M p r n Q h1 h2 h3 h4 => HC101 (swr_ok (P := Tryd.prog) (cmp := cmp) h ho h1 hl h2 h3 h4)
  have hr : RotOk Tryd.prog 99 enc 2 z rest s q N f cmp := fun M a m b Q h1 h2 h3 h4 h5 => HC99 (rot_ok (u3 := 3) hw h1 hl h2 h3 h4 h5)
  have hi : InsOk Tryd.prog 96 enc 2 z lt rest s q N f cmp := fun M a b Q h1 h2 h3 h4 => HC96 (by rw [← h1]; exact ins_ok (z := z) hO h ho hc (by omega) (by omega) h2 h4)
  have hs : ∀ d, SymOk Tryd.prog 97 enc 2 z lt rest s q N f cmp d := sym_all fun M a m b Q ih h1 h2 h3 h4 h5 h6 h7 => HC97 (sym_step (u3 := 3) hO h ho hc hr ih h1 hl h2 h3 h4 h5 h6 h7)
  refine HC86 ?_
  show HC Tryd.prog 93 [.view q 0 2 N f, .lit (.int .i64 (N : Int)), cmp] (Lay enc rest s q M) _
  refine HC93 (stb_ok hi hs hN hl fun M' k1 k2 => hQ M' k1 ?_)
  have : M'.length = N := by rw [k1.length_eq, hN]
  rw [← this] at k2
  exact k2.pairwise
theorem sort38 (z : α) (hO : Ordr lt) (h : ∀ x, (enc x).length = 2) (ho : ∀ x, ∀ y ∈ enc x, hone y = true) (hc : CmpOk Tryd.prog cmp enc lt rest s q) {M : List α} {Q : HV → HS → Prop} (hl : M.length < 1099511627776)
    (hQ : ∀ M', M'.Perm M → M'.Pairwise (fun x y => lt y x = false) → Q (.tup []) (Lay enc rest s q M')) :
    HC Tryd.prog 75 [.view q 0 2 M.length f, cmp] (Lay enc rest s q M) Q := by
  obtain ⟨N, hN⟩ : ∃ N, M.length = N := ⟨_, rfl⟩
  rw [hN] at hl ⊢
  have hw : SwrOk Tryd.prog 100 enc 2 z rest s q N f cmp := fun M p r n Q h1 h2 h3 h4 => HC100 (swr_ok (P := Tryd.prog) (cmp := cmp) h ho h1 hl h2 h3 h4)
  have hr : RotOk Tryd.prog 98 enc 2 z rest s q N f cmp := fun M a m b Q h1 h2 h3 h4 h5 => HC98 (rot_ok (u3 := 3) hw h1 hl h2 h3 h4 h5)
  have hi : InsOk Tryd.prog 94 enc 2 z lt rest s q N f cmp := fun M a b Q h1 h2 h3 h4 => HC94 (by rw [← h1]; exact ins_ok (z := z) hO h ho hc (by omega) (by omega) h2 h4)
  have hs : ∀ d, SymOk Tryd.prog 95 enc 2 z lt rest s q N f cmp d := sym_all fun M a m b Q ih h1 h2 h3 h4 h5 h6 h7 => HC95 (sym_step (u3 := 3) hO h ho hc hr ih h1 hl h2 h3 h4 h5 h6 h7)
  refine HC75 ?_
  show HC Tryd.prog 89 [.view q 0 2 N f, .lit (.int .i64 (N : Int)), cmp] (Lay enc rest s q M) _
  refine HC89 (stb_ok hi hs hN hl fun M' k1 k2 => hQ M' k1 ?_)
  have : M'.length = N := by rw [k1.length_eq, hN]
  rw [← this] at k2
  exact k2.pairwise
end
theorem cmp40 (a b : By) (s : HS) : HC Tryd.prog 77 [strV a, strV b] s (fun v s' => s' = s ∧ ∃ n : Int, v = .lit (.int .i64 n) ∧ (n < 0 ↔ bl_ a b = true)) := by
  have hn : ∀ (k : By) (t : HS), HC Tryd.prog 90 [strV k] t (fun v t' => v = .lit (.bool false) ∧ t' = t) := fun k t => by
    refine HC90 ?_
    simp [c90, strV, vCmp, vBin, bindO]
  refine HC77 ?_
  unfold c77
  refine (hn a s).mono ?_
  rintro v t ⟨rfl, rfl⟩
  refine (hn b t).mono ?_
  rintro v t1 ⟨rfl, rfl⟩
  simp only [hcond, strV, vBin, bindO, str_lt]
  cases hab : bl_ a b with
  | true => exact ⟨trivial, -1, rfl, by simp⟩
  | false =>
    simp only [Bool.false_or, toL]
    cases hE : (a == b) with
    | false => exact ⟨trivial, 1, rfl, by simp⟩
    | true => exact ⟨trivial, 0, rfl, by simp⟩
end Go.Proofs.YtkcgokkgefgcjaaDoor.AS
end
section
namespace Go.Proofs.YtkcgokkgefgcjaaDoor.AS
open Go.Proofs.YtkcgokkgefgcjaaDoor.H Go.Proofs.YtkcgokkgefgcjaaDoor.G0 Go.Proofs.YtkcgokkgefgcjaaDoor.G1
set_option linter.unusedVariables false
set_option linter.unusedSimpArgs false
set_option maxRecDepth 100000
/-- A row: nil, or an object. -/
def RowV (s : HS) (sz : Nat) (A : HV) (n : Nat) (cs : List HV) : Prop := (A = nilV ∧ cs = [] ∧ n = 0) ∨ ∃ q f, A = .view q 0 sz n f ∧ s q = some (.cells cs) ∧ cs.length = n * sz
theorem RowV.le {s t : HS} {sz : Nat} {A : HV} {n : Nat} {cs : List HV} (h : RowV s sz A n cs) (hle : HS.le s t) : RowV t sz A n cs := by
  rcases h with h | ⟨q, f, h1, h2, h3⟩
  · exact .inl h
  · exact .inr ⟨q, f, h1, hle _ _ h2, h3⟩
theorem RowV.lc {s : HS} {sz : Nat} {A : HV} {n : Nat} {cs : List HV} (h : RowV s sz A n cs) : lcells s sz A = some cs := by
  rcases h with ⟨rfl, rfl, rfl⟩ | ⟨q, f, rfl, h2, h3⟩
  · rfl
  · simp [lcells, h2, h3, List.take_of_length_le]
theorem RowV.llen {s : HS} {sz : Nat} {A : HV} {n : Nat} {cs : List HV} (h : RowV s sz A n cs) : llen A = n := by
  rcases h with ⟨rfl, rfl, rfl⟩ | ⟨q, f, rfl, h2, h3⟩ <;> rfl
theorem RowV.cl {s : HS} {sz : Nat} {A : HV} {n : Nat} {cs : List HV} (h : RowV s sz A n cs) : cs.length = n * sz := by
  rcases h with ⟨rfl, rfl, rfl⟩ | ⟨q, f, rfl, h2, h3⟩
  · simp
  · exact h3
theorem RowV.len {s : HS} {sz : Nat} {A : HV} {n : Nat} {cs : List HV} (h : RowV s sz A n cs) (e : Nat) (t : HS) : vLenT (some (.slice e)) t A = some (.lit (.int .i64 n)) := by
  rcases h with ⟨rfl, rfl, rfl⟩ | ⟨q, f, rfl, h2, h3⟩ <;> rfl
theorem acc0_row {b t : HS} {sz : Nat} {A : HV} {n : Nat} {cs : List HV} (h : Acc0 b t sz A n cs) : RowV t sz A n cs := by
  rcases h with (h | ⟨q, f, h1, rfl, h3, h4, h5⟩) | ⟨rfl, rfl, q, h1, rfl, h3⟩
  · obtain ⟨h1, h2, h3⟩ := h; exact .inl ⟨h1, h2, h3⟩
  · exact .inr ⟨q, f, rfl, h3, h4⟩
  · exact .inr ⟨q, true, rfl, h3, by simp⟩
theorem RowV.at_ {α : Type} {enc : α → List HV} {sz : Nat} (he : ∀ x, (enc x).length = sz) (z : α) {s : HS} {A : HV} {l : List α} (h : RowV s sz A l.length (rows enc l)) {i : Nat} (hi : i < l.length) :
    ∃ q, vIdx sz A (.lit (.int .i64 (i : Int))) = some (.ptr q (i * sz)) ∧ ∀ t, HS.le s t → vLoad t (.ptr q (i * sz)) sz true = some (.agg (enc (l.getD i z))) ∧ ∀ j, j < sz → ∀ m, vLoad t (.ptr q (i * sz + j)) m false = (enc (l.getD i z))[j]? := by
  rcases h with ⟨rfl, h0, h1⟩ | ⟨q, f, rfl, h3, h4⟩
  · omega
  · refine ⟨q, by rw [idx_view .i64 hi, Nat.zero_add], fun t ht => ?_⟩
    have h5 : t q = some (.cells (rows enc l ++ [])) := by rw [List.append_nil]; exact ht _ _ h3
    exact ⟨load_rows he z h5 hi, fun j hj m => load_rows1 he z h5 hi hj⟩
theorem hbox_intro {s : HS} {v : HV} {cs : List HV} {K : HV → HS → Prop} (hc : hcells v = some cs) (h : ∀ id, s id = none → K (.ptr id 0) (s.set id (.cells cs))) : hBox s v K := by
  unfold hBox
  rw [hc]
  exact h
theorem name44 (m : Mem) (u : HS) : HC Tryd.prog 71 [.agg (memC m)] u (fun v u' => u' = u ∧ v = strV m.id) := by
  refine HC.weaken (HC71 ?_)
  simp only [c71, hBox, hcells, bindO, vField]
  intro id hid
  simp only [Nat.zero_add]
  rw [load_cell 0 1 (set_at u id _)]
  exact ⟨u, le_set_new _ (le_refl' u) hid, rfl, rfl⟩
theorem plain44 : plainFn Tryd.prog 71 = true := by unfold plainFn; rw [Tryd.func71]; rfl
theorem cmp54 {s : HS} {rest : List HV} {q nb : Nat} (hnb : s nb = some (.cells [.func (.func 71) []])) (hq : nb ≠ q) : CmpOk Tryd.prog (.func (.func 87) [.ptr nb 0]) memC ltM rest s q := by
  intro M x y K hK
  have hp : plainFn Tryd.prog 87 = true := by unfold plainFn; rw [Tryd.func87]; rfl
  have hp4 := plain44
  have hL : Lay memC rest s q M nb = some (.cells [.func (.func 71) []]) := by unfold Lay; rw [set_ne _ _ hq]; exact hnb
  generalize Lay memC rest s q M = t at *
  simp only [hcall, hite_eq, hp, if_true, List.cons_append, List.nil_append]
  refine HC.weaken (HC87 ?_)
  simp only [c87, hBox, hcells]
  intro i1 h1
  have n1 := ne_new hL h1
  have e1 := set_at t i1 (.cells (memC x))
  have eL : (t.set i1 (.cells (memC x))) nb = some (.cells [.func (.func 71) []]) := by rw [set_ne _ _ n1]; exact hL
  have hle := le_set_new (.cells (memC x)) (le_refl' t) h1
  generalize t.set i1 (.cells (memC x)) = t1 at *
  intro i2 h2
  have e2 := set_at t1 i2 (.cells (memC y))
  have e3 : (t1.set i2 (.cells (memC y))) i1 = some (.cells (memC x)) := by rw [set_ne _ _ (ne_new e1 h2)]; exact e1
  have eL2 : (t1.set i2 (.cells (memC y))) nb = some (.cells [.func (.func 71) []]) := by rw [set_ne _ _ (ne_new eL h2)]; exact eL
  have hle2 := le_set_new (.cells (memC y)) hle h2
  generalize t1.set i2 (.cells (memC y)) = t2 at *
  have l2 := load_all (memC_len y) e2
  have lL : vLoad t2 (.ptr nb 0) 1 false = some (.func (.func 71) []) := load_cell 0 1 eL2
  rw [lL, load_all (memC_len x) e3, l2]
  simp only [bindO, hcall, hite_eq, hp4, if_true, List.append_nil]
  refine (name44 x t2).mono ?_
  rintro v t3 ⟨rfl, rfl⟩
  refine ⟨l2, lL, (name44 y t3).mono ?_⟩
  rintro v t4 ⟨rfl, rfl⟩
  refine (cmp40 x.id y.id t4).mono ?_
  rintro v t5 ⟨rfl, n, rfl, hn⟩
  exact ⟨t, hle2, hK n hn⟩
theorem clone52 {s : HS} {A : HV} {n : Nat} {cs : List HV} (h : RowV s 2 A n cs) (hn : n ≤ 1000000000) : HC Tryd.prog 85 [A] s (fun v t => Acc0 s t 2 v n cs ∧ HS.le s t) := by
  refine HC85 ?_
  unfold c85
  have hcl := h.cl
  rcases h with ⟨rfl, rfl, rfl⟩ | ⟨q, f, rfl, h2, h3⟩
  · exact ⟨.inl (Acc.nil _ _ _), le_refl' s⟩
  · rw [show vCmp (Tryd.prog.underlying 92) .eql (.view q 0 2 n f) (.lit (.slice none 0 0)) = some (.lit (.bool false)) from rfl]
    simp only [bindO, hcond]
    refine hBS0 fun id hid => ?_
    have hr : RowV s 2 (.view q 0 2 n f) n cs := .inr ⟨q, f, rfl, h2, h3⟩
    exact app_empty (b := s) (le_set_new _ (le_refl' s) hid) hid (set_at _ _ _) (hr.le (le_set_new _ (le_refl' s) hid)).lc hr.llen hcl ⟨by omega, by omega⟩ fun A' t' k1 k2 => ⟨k1, k2⟩
theorem insNil60 (cmp : HV) (s : HS) : HC Tryd.prog 96 [nilV, .lit (.int .i64 0), .lit (.int .i64 0), cmp] s (fun v t => t = s) := by
  refine HC96 ?_
  unfold c96
  rw [show vBin .add (.lit (.int .i64 0)) (.lit (.int .i64 1)) = some (.lit (.int .i64 ((0 + 1 : Nat) : Int))) from add_i (a := 0) (b := 1) (by omega)]
  simp only [bindO]
  refine HLoop.ghost (σ := Unit) (fun _ => [.lit (.int .i64 ((0 + 1 : Nat) : Int))]) (fun _ t => t = s) (fun _ => 0) () rfl rfl ?_
  rintro _ t K rfl hK
  rfl
theorem sortNil53 (cmp : HV) (s : HS) : HC Tryd.prog 86 [nilV, cmp] s (fun v t => t = s) := by
  refine HC86 ?_
  show HC Tryd.prog 93 [nilV, .lit (.int .i64 0), cmp] s _
  refine HC93 ?_
  refine HLoop.ghost (σ := Unit) (fun _ => [.lit (.int .i64 0), .lit (.int .i64 20)]) (fun _ t => t = s) (fun _ => 0) () rfl rfl ?_
  rintro _ t K rfl hK
  show HC Tryd.prog 96 [nilV, .lit (.int .i64 0), .lit (.int .i64 0), cmp] t _
  refine (insNil60 cmp t).mono ?_
  rintro v t1 rfl
  refine HLoop.ghost (σ := Unit) (fun _ => [.lit (.int .i64 20)]) (fun _ t => t = t1) (fun _ => 0) () rfl rfl ?_
  rintro _ t K rfl hK
  rfl
/-- An own row sorted: the state is the same but for it. -/
theorem sortRow53 {b t : HS} {cmp A : HV} {l : List Mem} (hA : Acc0 b t 2 A l.length (rows memC l)) (hb : HS.le b t) (hc : ∀ q, b q = none → CmpOk Tryd.prog cmp memC ltM [] t q) (hl : l.length < 1099511627776) :
    HC Tryd.prog 86 [A, cmp] t (fun v t' => ∃ l', l'.Perm l ∧ l'.Pairwise (fun x y => ltM y x = false) ∧ Acc0 b t' 2 A l'.length (rows memC l') ∧ HS.le b t') := by
  have own : ∀ q f, b q = none → A = .view q 0 2 l.length f → t q = some (.cells (rows memC l)) → HC Tryd.prog 86 [A, cmp] t (fun v t' => ∃ l', l'.Perm l ∧ l'.Pairwise (fun x y => ltM y x = false) ∧ Acc0 b t' 2 A l'.length (rows memC l') ∧ HS.le b t') := by
    rintro q f h1 rfl h2
    have e : Lay memC [] t q l = t := lay_self (by rw [List.append_nil]; exact h2)
    have := sort53 (f := f) (Q := fun v t' => ∃ l', l'.Perm l ∧ l'.Pairwise (fun x y => ltM y x = false) ∧ Acc0 b t' 2 (.view q 0 2 l.length f) l'.length (rows memC l') ∧ HS.le b t') m0 (ordr_name Mem.id) memC_len memC_one (hc q h1) (M := l) hl fun l' p1 p2 => ?_
    · rw [e] at this; exact this
    · refine ⟨l', p1, p2, ?_, ?_⟩
      · have hlen : l'.length = l.length := p1.length_eq
        rw [hlen]
        have at_ : Lay memC [] t q l' q = some (.cells (rows memC l')) := by rw [lay_at, List.append_nil]
        by_cases h0 : l.length = 0
        · rcases hA with (⟨h, -⟩ | ⟨q', f', g1, g2, g3, g4, g5⟩) | ⟨g1, g2, q', g3, g4, g5⟩
          · cases h
          · exact absurd h0 g5
          · have hf : f = true := by injection g4
            obtain rfl : l' = [] := List.eq_nil_of_length_eq_zero (by omega)
            exact .inr ⟨g1, rfl, q, h1, by rw [h0, hf], at_⟩
        · exact .inl (.inr ⟨q, f, h1, rfl, at_, by rw [rows_len memC_len, hlen], h0⟩)
      · exact le_set_free _ hb h1
  rcases hA with (⟨rfl, h2, h3⟩ | ⟨q, f, h1, h2, h3, h4, h5⟩) | ⟨h1, h2, q, h3, h4, h5⟩
  · obtain rfl : l = [] := List.eq_nil_of_length_eq_zero h3
    refine (sortNil53 cmp t).mono ?_
    rintro v t' rfl
    exact ⟨[], List.Perm.refl _, List.Pairwise.nil, .inl (Acc.nil _ _ _), hb⟩
  · exact own q f h1 h2 h3
  · obtain rfl : l = [] := List.eq_nil_of_length_eq_zero h1
    exact own q true h3 h4 h5
theorem sorted43 {s : HS} {A : HV} {l : List Mem} (h : RowV s 2 A l.length (rows memC l)) (hl : l.length ≤ 1000000) :
    HC Tryd.prog 70 [A, .func (.func 71) []] s (fun v t => HS.le s t ∧ ((¬ (l.map Mem.id).Nodup ∧ v = .tup [nilV, .lit (.bool false)]) ∨ ((l.map Mem.id).Nodup ∧ ∃ l', l'.Perm l ∧ l'.Pairwise (fun x y => ltM x y = true) ∧ ∃ A', v = .tup [A', .lit (.bool true)] ∧ Acc0 s t 2 A' l'.length (rows memC l')))) := by
  refine HC70 ?_
  unfold c70
  refine hbox_intro (hc_func _ _) fun nb hnb => ?_
  have hle1 := le_set_new (.cells [.func (.func 71) []]) (le_refl' s) hnb
  have en := set_at s nb (.cells [.func (.func 71) []])
  generalize s.set nb (.cells [.func (.func 71) []]) = s1 at *
  refine (clone52 (h.le hle1) (by omega)).mono ?_
  rintro A1 s2 ⟨hA1, hle2⟩
  have en2 := hle2 _ _ en
  refine (sortRow53 hA1 hle2 (fun q hq => cmp54 en2 (by rintro rfl; rw [en] at hq; cases hq)) (by omega)).mono ?_
  rintro v s3 ⟨l', hp, hso, hA', hle3⟩
  have en3 := hle3 _ _ en
  have hlen : l'.length = l.length := hp.length_eq
  have hnd : (l.map Mem.id).Nodup ↔ (l'.map Mem.id).Nodup := (hp.map _).nodup_iff.symm
  have hrow := acc0_row hA'
  refine HLoop.ghost (σ := Nat) (fun i => [.lit (.int .i64 (i : Int))]) (fun i t => 1 ≤ i ∧ t = s3 ∧ ∀ j, j + 1 < i → j + 1 < l'.length → (l'.getD (j + 1) m0).id ≠ (l'.getD j m0).id) (fun i => l'.length + 1 - i) 1 rfl ⟨Nat.le_refl _, rfl, fun j h1 h2 => by omega⟩ ?_
  rintro i t K ⟨h1, rfl, h3⟩ hK
  have hvl : vLenT (Tryd.prog.underlying 92) t A1 = some (.lit (.int .i64 (l'.length : Int))) := hrow.len _ t
  simp only [List.headD_cons, hvl, bindO, lss_i]
  by_cases hi : i < l'.length
  · obtain ⟨q, x1, y1⟩ := hrow.at_ memC_len m0 hi
    obtain ⟨q2, x2, y2⟩ := hrow.at_ memC_len m0 (show i - 1 < l'.length by omega)
    have lL : vLoad t (.ptr nb 0) 1 false = some (.func (.func 71) []) := load_cell 0 1 en3
    have z2 := (y2 t (le_refl' t)).1
    simp only [hi, decide_true, hcond, lL, x1, (y1 t (le_refl' t)).1]
    rw [wlit1, sub_i h1 (by omega)]
    simp only [x2, z2, hcall, hite_eq, plain44, if_true, List.append_nil]
    refine (name44 _ t).mono ?_
    rintro v t1 ⟨rfl, rfl⟩
    refine ⟨z2, lL, (name44 _ t1).mono ?_⟩
    rintro v t2 ⟨rfl, rfl⟩
    simp only [vCmp, vBin, strV, toL]
    cases he : ((l'.getD i m0).id == (l'.getD (i - 1) m0).id) with
    | true =>
      refine ⟨HS.le.trans hle1 hle3, .inl ⟨?_, trivial⟩⟩
      rw [hnd]
      intro hn
      have hij := (List.pairwise_iff_getElem.1 hn) (i - 1) i (by simp; omega) (by simpa using hi) (by omega)
      simp only [List.getElem_map] at hij
      rw [getD_get _ _ hi, getD_get _ _ (show i - 1 < l'.length by omega)] at he
      exact hij (eq_of_beq he).symm
    | false =>
      simp only [if_true]
      rw [show IntKind.i64.wrap ((i : Int) + ((1 : Nat) : Int)) = ((i + 1 : Nat) : Int) from wrap_add1 (by omega)]
      refine hK (i + 1) _ _ rfl ⟨by omega, rfl, fun j k1 k2 => ?_⟩ (by show l'.length + 1 - (i + 1) < l'.length + 1 - i; omega)
      by_cases hj : j + 1 < i
      · exact h3 j hj k2
      · obtain rfl : i = j + 1 := by omega
        intro e
        rw [show j + 1 - 1 = j by omega, e] at he
        simp at he
  · simp only [hi, decide_false, hcond]
    have hadj : ∀ j, j + 1 < l'.length → bl_ (l'.getD j m0).id (l'.getD (j + 1) m0).id = true := fun j hj => by
      have h5 := List.pairwise_iff_getElem.1 hso j (j + 1) (by omega) hj (by omega)
      have h6 := h3 j (by omega) hj
      rw [getD_get _ _ hj, getD_get _ _ (show j < l'.length by omega)] at h6 ⊢
      rcases bl_tri _ _ h5 with e | e
      · exact absurd e h6
      · exact e
    have hstr : l'.Pairwise (fun x y => ltM x y = true) := by
      rw [List.pairwise_iff_getElem]
      intro a b ha hb hab
      obtain ⟨d, rfl⟩ : ∃ d, b = a + d + 1 := ⟨b - a - 1, by omega⟩
      clear hab
      induction d with
      | zero =>
        have := hadj a (by omega)
        rwa [getD_get _ _ ha, getD_get _ _ hb] at this
      | succ d ih =>
        have h7 := ih (by omega)
        have h8 := hadj (a + d + 1) (by omega)
        rw [getD_get _ _ (show a + d + 1 < l'.length by omega), getD_get _ _ (show a + d + 1 + 1 < l'.length by omega)] at h8
        exact bl_trans _ _ _ h7 h8
    refine ⟨HS.le.trans hle1 hle3, .inr ⟨?_, l', hp, hstr, A1, rfl, ?_⟩⟩
    · rw [hnd]
      unfold List.Nodup
      rw [List.pairwise_map]
      exact hstr.imp fun {x y} hxy e => by
        have hxy' : bl_ x.id y.id = true := hxy
        rw [e, bl_irrefl] at hxy'
        cases hxy'
    · rcases hA' with hA' | ⟨g1, g2, q, g3, g4⟩
      · exact .inl (hA'.base hle1)
      · exact .inr ⟨g1, g2, q, none_of_le hle1 g3, g4⟩
theorem name46 (m : Top) (u : HS) : HC Tryd.prog 73 [.agg (topC m)] u (fun v u' => u' = u ∧ v = strV m.name) := by
  refine HC.weaken (HC73 ?_)
  simp only [c73, hBox, hcells, bindO, vField]
  intro id hid
  simp only [Nat.zero_add]
  rw [load_cell 0 1 (set_at u id _)]
  exact ⟨u, le_set_new _ (le_refl' u) hid, rfl, rfl⟩
theorem plain46 : plainFn Tryd.prog 73 = true := by unfold plainFn; rw [Tryd.func73]; rfl
theorem cmp55 {s : HS} {rest : List HV} {q nb : Nat} (hnb : s nb = some (.cells [.func (.func 73) []])) (hq : nb ≠ q) : CmpOk Tryd.prog (.func (.func 88) [.ptr nb 0]) topC ltT rest s q := by
  intro M x y K hK
  have hp : plainFn Tryd.prog 88 = true := by unfold plainFn; rw [Tryd.func88]; rfl
  have hp4 := plain46
  have hL : Lay topC rest s q M nb = some (.cells [.func (.func 73) []]) := by unfold Lay; rw [set_ne _ _ hq]; exact hnb
  generalize Lay topC rest s q M = t at *
  simp only [hcall, hite_eq, hp, if_true, List.cons_append, List.nil_append]
  refine HC.weaken (HC88 ?_)
  simp only [c88, hBox, hcells]
  intro i1 h1
  have n1 := ne_new hL h1
  have e1 := set_at t i1 (.cells (topC x))
  have eL : (t.set i1 (.cells (topC x))) nb = some (.cells [.func (.func 73) []]) := by rw [set_ne _ _ n1]; exact hL
  have hle := le_set_new (.cells (topC x)) (le_refl' t) h1
  generalize t.set i1 (.cells (topC x)) = t1 at *
  intro i2 h2
  have e2 := set_at t1 i2 (.cells (topC y))
  have e3 : (t1.set i2 (.cells (topC y))) i1 = some (.cells (topC x)) := by rw [set_ne _ _ (ne_new e1 h2)]; exact e1
  have eL2 : (t1.set i2 (.cells (topC y))) nb = some (.cells [.func (.func 73) []]) := by rw [set_ne _ _ (ne_new eL h2)]; exact eL
  have hle2 := le_set_new (.cells (topC y)) hle h2
  generalize t1.set i2 (.cells (topC y)) = t2 at *
  have l2 := load_all (topC_len y) e2
  have lL : vLoad t2 (.ptr nb 0) 1 false = some (.func (.func 73) []) := load_cell 0 1 eL2
  rw [lL, load_all (topC_len x) e3, l2]
  simp only [bindO, hcall, hite_eq, hp4, if_true, List.append_nil]
  refine (name46 x t2).mono ?_
  rintro v t3 ⟨rfl, rfl⟩
  refine ⟨l2, lL, (name46 y t3).mono ?_⟩
  rintro v t4 ⟨rfl, rfl⟩
  refine (cmp40 x.name y.name t4).mono ?_
  rintro v t5 ⟨rfl, n, rfl, hn⟩
  exact ⟨t, hle2, hK n hn⟩
theorem clone37 {s : HS} {A : HV} {n : Nat} {cs : List HV} (h : RowV s 2 A n cs) (hn : n ≤ 1000000000) : HC Tryd.prog 38 [A] s (fun v t => Acc0 s t 2 v n cs ∧ HS.le s t) := by
  refine HC38 ?_
  unfold c38
  have hcl := h.cl
  rcases h with ⟨rfl, rfl, rfl⟩ | ⟨q, f, rfl, h2, h3⟩
  · exact ⟨.inl (Acc.nil _ _ _), le_refl' s⟩
  · rw [show vCmp (Tryd.prog.underlying 29) .eql (.view q 0 2 n f) (.lit (.slice none 0 0)) = some (.lit (.bool false)) from rfl]
    simp only [bindO, hcond]
    refine hBS0 fun id hid => ?_
    have hr : RowV s 2 (.view q 0 2 n f) n cs := .inr ⟨q, f, rfl, h2, h3⟩
    exact app_empty (b := s) (le_set_new _ (le_refl' s) hid) hid (set_at _ _ _) (hr.le (le_set_new _ (le_refl' s) hid)).lc hr.llen hcl ⟨by omega, by omega⟩ fun A' t' k1 k2 => ⟨k1, k2⟩
theorem insNil56 (cmp : HV) (s : HS) : HC Tryd.prog 94 [nilV, .lit (.int .i64 0), .lit (.int .i64 0), cmp] s (fun v t => t = s) := by
  refine HC94 ?_
  unfold c94
  rw [show vBin .add (.lit (.int .i64 0)) (.lit (.int .i64 1)) = some (.lit (.int .i64 ((0 + 1 : Nat) : Int))) from add_i (a := 0) (b := 1) (by omega)]
  simp only [bindO]
  refine HLoop.ghost (σ := Unit) (fun _ => [.lit (.int .i64 ((0 + 1 : Nat) : Int))]) (fun _ t => t = s) (fun _ => 0) () rfl rfl ?_
  rintro _ t K rfl hK
  rfl
theorem sortNil38 (cmp : HV) (s : HS) : HC Tryd.prog 75 [nilV, cmp] s (fun v t => t = s) := by
  refine HC75 ?_
  show HC Tryd.prog 89 [nilV, .lit (.int .i64 0), cmp] s _
  refine HC89 ?_
  refine HLoop.ghost (σ := Unit) (fun _ => [.lit (.int .i64 0), .lit (.int .i64 20)]) (fun _ t => t = s) (fun _ => 0) () rfl rfl ?_
  rintro _ t K rfl hK
  show HC Tryd.prog 94 [nilV, .lit (.int .i64 0), .lit (.int .i64 0), cmp] t _
  refine (insNil56 cmp t).mono ?_
  rintro v t1 rfl
  refine HLoop.ghost (σ := Unit) (fun _ => [.lit (.int .i64 20)]) (fun _ t => t = t1) (fun _ => 0) () rfl rfl ?_
  rintro _ t K rfl hK
  rfl
/-- An own row sorted: the state is the same but for it. -/
theorem sortRow38 {b t : HS} {cmp A : HV} {l : List Top} (hA : Acc0 b t 2 A l.length (rows topC l)) (hb : HS.le b t) (hc : ∀ q, b q = none → CmpOk Tryd.prog cmp topC ltT [] t q) (hl : l.length < 1099511627776) :
    HC Tryd.prog 75 [A, cmp] t (fun v t' => ∃ l', l'.Perm l ∧ l'.Pairwise (fun x y => ltT y x = false) ∧ Acc0 b t' 2 A l'.length (rows topC l') ∧ HS.le b t') := by
  have own : ∀ q f, b q = none → A = .view q 0 2 l.length f → t q = some (.cells (rows topC l)) → HC Tryd.prog 75 [A, cmp] t (fun v t' => ∃ l', l'.Perm l ∧ l'.Pairwise (fun x y => ltT y x = false) ∧ Acc0 b t' 2 A l'.length (rows topC l') ∧ HS.le b t') := by
    rintro q f h1 rfl h2
    have e : Lay topC [] t q l = t := lay_self (by rw [List.append_nil]; exact h2)
    have := sort38 (f := f) (Q := fun v t' => ∃ l', l'.Perm l ∧ l'.Pairwise (fun x y => ltT y x = false) ∧ Acc0 b t' 2 (.view q 0 2 l.length f) l'.length (rows topC l') ∧ HS.le b t') t0 (ordr_name Top.name) topC_len topC_one (hc q h1) (M := l) hl fun l' p1 p2 => ?_
    · rw [e] at this; exact this
    · refine ⟨l', p1, p2, ?_, ?_⟩
      · have hlen : l'.length = l.length := p1.length_eq
        rw [hlen]
        have at_ : Lay topC [] t q l' q = some (.cells (rows topC l')) := by rw [lay_at, List.append_nil]
        by_cases h0 : l.length = 0
        · rcases hA with (⟨h, -⟩ | ⟨q', f', g1, g2, g3, g4, g5⟩) | ⟨g1, g2, q', g3, g4, g5⟩
          · cases h
          · exact absurd h0 g5
          · have hf : f = true := by injection g4
            obtain rfl : l' = [] := List.eq_nil_of_length_eq_zero (by omega)
            exact .inr ⟨g1, rfl, q, h1, by rw [h0, hf], at_⟩
        · exact .inl (.inr ⟨q, f, h1, rfl, at_, by rw [rows_len topC_len, hlen], h0⟩)
      · exact le_set_free _ hb h1
  rcases hA with (⟨rfl, h2, h3⟩ | ⟨q, f, h1, h2, h3, h4, h5⟩) | ⟨h1, h2, q, h3, h4, h5⟩
  · obtain rfl : l = [] := List.eq_nil_of_length_eq_zero h3
    refine (sortNil38 cmp t).mono ?_
    rintro v t' rfl
    exact ⟨[], List.Perm.refl _, List.Pairwise.nil, .inl (Acc.nil _ _ _), hb⟩
  · exact own q f h1 h2 h3
  · obtain rfl : l = [] := List.eq_nil_of_length_eq_zero h1
    exact own q true h3 h4 h5
theorem sorted45 {s : HS} {A : HV} {l : List Top} (h : RowV s 2 A l.length (rows topC l)) (hl : l.length ≤ 1000000) :
    HC Tryd.prog 72 [A, .func (.func 73) []] s (fun v t => HS.le s t ∧ ((¬ (l.map Top.name).Nodup ∧ v = .tup [nilV, .lit (.bool false)]) ∨ ((l.map Top.name).Nodup ∧ ∃ l', l'.Perm l ∧ l'.Pairwise (fun x y => ltT x y = true) ∧ ∃ A', v = .tup [A', .lit (.bool true)] ∧ Acc0 s t 2 A' l'.length (rows topC l')))) := by
  refine HC72 ?_
  unfold c72
  refine hbox_intro (hc_func _ _) fun nb hnb => ?_
  have hle1 := le_set_new (.cells [.func (.func 73) []]) (le_refl' s) hnb
  have en := set_at s nb (.cells [.func (.func 73) []])
  generalize s.set nb (.cells [.func (.func 73) []]) = s1 at *
  refine (clone37 (h.le hle1) (by omega)).mono ?_
  rintro A1 s2 ⟨hA1, hle2⟩
  have en2 := hle2 _ _ en
  refine (sortRow38 hA1 hle2 (fun q hq => cmp55 en2 (by rintro rfl; rw [en] at hq; cases hq)) (by omega)).mono ?_
  rintro v s3 ⟨l', hp, hso, hA', hle3⟩
  have en3 := hle3 _ _ en
  have hlen : l'.length = l.length := hp.length_eq
  have hnd : (l.map Top.name).Nodup ↔ (l'.map Top.name).Nodup := (hp.map _).nodup_iff.symm
  have hrow := acc0_row hA'
  refine HLoop.ghost (σ := Nat) (fun i => [.lit (.int .i64 (i : Int))]) (fun i t => 1 ≤ i ∧ t = s3 ∧ ∀ j, j + 1 < i → j + 1 < l'.length → (l'.getD (j + 1) t0).name ≠ (l'.getD j t0).name) (fun i => l'.length + 1 - i) 1 rfl ⟨Nat.le_refl _, rfl, fun j h1 h2 => by omega⟩ ?_
  rintro i t K ⟨h1, rfl, h3⟩ hK
  have hvl : vLenT (Tryd.prog.underlying 29) t A1 = some (.lit (.int .i64 (l'.length : Int))) := hrow.len _ t
  simp only [List.headD_cons, hvl, bindO, lss_i]
  by_cases hi : i < l'.length
  · obtain ⟨q, x1, y1⟩ := hrow.at_ topC_len t0 hi
    obtain ⟨q2, x2, y2⟩ := hrow.at_ topC_len t0 (show i - 1 < l'.length by omega)
    have lL : vLoad t (.ptr nb 0) 1 false = some (.func (.func 73) []) := load_cell 0 1 en3
    have z2 := (y2 t (le_refl' t)).1
    simp only [hi, decide_true, hcond, lL, x1, (y1 t (le_refl' t)).1]
    rw [wlit1, sub_i h1 (by omega)]
    simp only [x2, z2, hcall, hite_eq, plain46, if_true, List.append_nil]
    refine (name46 _ t).mono ?_
    rintro v t1 ⟨rfl, rfl⟩
    refine ⟨z2, lL, (name46 _ t1).mono ?_⟩
    rintro v t2 ⟨rfl, rfl⟩
    simp only [vCmp, vBin, strV, toL]
    cases he : ((l'.getD i t0).name == (l'.getD (i - 1) t0).name) with
    | true =>
      refine ⟨HS.le.trans hle1 hle3, .inl ⟨?_, trivial⟩⟩
      rw [hnd]
      intro hn
      have hij := (List.pairwise_iff_getElem.1 hn) (i - 1) i (by simp; omega) (by simpa using hi) (by omega)
      simp only [List.getElem_map] at hij
      rw [getD_get _ _ hi, getD_get _ _ (show i - 1 < l'.length by omega)] at he
      exact hij (eq_of_beq he).symm
    | false =>
      simp only [if_true]
      rw [show IntKind.i64.wrap ((i : Int) + ((1 : Nat) : Int)) = ((i + 1 : Nat) : Int) from wrap_add1 (by omega)]
      refine hK (i + 1) _ _ rfl ⟨by omega, rfl, fun j k1 k2 => ?_⟩ (by show l'.length + 1 - (i + 1) < l'.length + 1 - i; omega)
      by_cases hj : j + 1 < i
      · exact h3 j hj k2
      · obtain rfl : i = j + 1 := by omega
        intro e
        rw [show j + 1 - 1 = j by omega, e] at he
        simp at he
  · simp only [hi, decide_false, hcond]
    have hadj : ∀ j, j + 1 < l'.length → bl_ (l'.getD j t0).name (l'.getD (j + 1) t0).name = true := fun j hj => by
      have h5 := List.pairwise_iff_getElem.1 hso j (j + 1) (by omega) hj (by omega)
      have h6 := h3 j (by omega) hj
      rw [getD_get _ _ hj, getD_get _ _ (show j < l'.length by omega)] at h6 ⊢
      rcases bl_tri _ _ h5 with e | e
      · exact absurd e h6
      · exact e
    have hstr : l'.Pairwise (fun x y => ltT x y = true) := by
      rw [List.pairwise_iff_getElem]
      intro a b ha hb hab
      obtain ⟨d, rfl⟩ : ∃ d, b = a + d + 1 := ⟨b - a - 1, by omega⟩
      clear hab
      induction d with
      | zero =>
        have := hadj a (by omega)
        rwa [getD_get _ _ ha, getD_get _ _ hb] at this
      | succ d ih =>
        have h7 := ih (by omega)
        have h8 := hadj (a + d + 1) (by omega)
        rw [getD_get _ _ (show a + d + 1 < l'.length by omega), getD_get _ _ (show a + d + 1 + 1 < l'.length by omega)] at h8
        exact bl_trans _ _ _ h7 h8
    refine ⟨HS.le.trans hle1 hle3, .inr ⟨?_, l', hp, hstr, A1, rfl, ?_⟩⟩
    · rw [hnd]
      unfold List.Nodup
      rw [List.pairwise_map]
      exact hstr.imp fun {x y} hxy e => by
        have hxy' : bl_ x.name y.name = true := hxy
        rw [e, bl_irrefl] at hxy'
        cases hxy'
    · rcases hA' with hA' | ⟨g1, g2, q, g3, g4⟩
      · exact .inl (hA'.base hle1)
      · exact .inr ⟨g1, g2, q, none_of_le hle1 g3, g4⟩
end Go.Proofs.YtkcgokkgefgcjaaDoor.AS
end
section
namespace Go.Proofs.YtkcgokkgefgcjaaDoor.AS
open Go.Proofs.YtkcgokkgefgcjaaDoor.H Go.Proofs.YtkcgokkgefgcjaaDoor.G0 Go.Proofs.YtkcgokkgefgcjaaDoor.G1
set_option linter.unusedVariables false
set_option linter.unusedSimpArgs false
set_option maxRecDepth 100000
abbrev Slot := By × Int
def slC (x : Slot) : List HV := [strV x.1, .lit (.int .i64 x.2)]
theorem slC_len (x : Slot) : (slC x).length = 2 := rfl
structure Sh where
  who : By
  row : HV
  sl : List Slot
def shC (x : Sh) : List HV := [strV x.who, x.row]
theorem shC_len (x : Sh) : (shC x).length = 2 := rfl
def x0 : Sh := ⟨[], nilV, []⟩
/-- Shares: a row of names and of rows that grow, each one of its own. -/
structure Shares (b t : HS) (q : Nat) (L : List Sh) : Prop where
  free : b q = none
  at_ : t q = some (.cells (rows shC L))
  acc : ∀ x ∈ L, Acc b t 2 x.row x.sl.length (rows slC x.sl)
  apart : ∀ i j, i < j → j < L.length → accId (L.getD i x0).row = none ∨ accId (L.getD i x0).row ≠ accId (L.getD j x0).row
  self : ∀ x ∈ L, accId x.row ≠ some q
theorem hBS_mono {t : HS} {sz k : Nat} {zs : List HV} {l : List (Nat × HV)} {K K' : HV → HS → Prop} (h : hBS t sz k zs l K) (hk : ∀ v s, K v s → K' v s) : hBS t sz k zs l K' := by
  unfold hBS at h ⊢
  split
  · rename_i cs e
    rw [e] at h
    exact fun id hid => hk _ _ (h id hid)
  · rename_i e
    rw [e] at h
    exact h
theorem contains28 (o : Option (List By)) (k : By) (s : HS) (hl : (o.getD []).length ≤ 1000000000) : HC Tryd.prog 62 [rowV strC 1 o, strV k] s (fun v s' => v = .lit (.bool ((o.getD []).contains k)) ∧ s' = s) := by
  refine HC62 ?_
  unfold c62
  have hi : HC Tryd.prog 78 [rowV strC 1 o, strV k] s (fun v s' => v = .lit (.int .i64 (idxI (fun x => k == x) (o.getD []))) ∧ s' = s) := by
    refine HC78 ?_
    unfold c78
    have hlen : ∀ t, vLenT (Tryd.prog.underlying 32) t (rowV strC 1 o) = some (.lit (.int .i64 (((o.getD []).length : Nat) : Int))) := fun t => by cases o <;> rfl
    have hidx : ∀ i : Nat, i < (o.getD []).length → vIdx 1 (rowV strC 1 o) (.lit (.int .i64 (i : Int))) = some (.elt (strC ((o.getD []).getD i [])) 0) := fun i hi => by
      cases o with
      | none => simp at hi
      | some l => exact idx_rowL (enc := strC) (sz := 1) (fun _ => rfl) [] l .i64 hi
    simp only [hlen, bindO]
    generalize o.getD [] = l at *
    refine HLoop.ghost (σ := Nat) (fun i => [.lit (.int .i64 (i : Int))]) (fun i t => i ≤ l.length ∧ t = s ∧ ∀ x ∈ l.take i, (k == x) = false) (fun i => l.length - i) 0 rfl ⟨Nat.zero_le _, rfl, by simp⟩ ?_
    rintro i t K ⟨h1, rfl, h2⟩ hK
    simp only [List.headD_cons, lss_i]
    by_cases hlt : i < l.length
    · simp only [hlt, decide_true, hcond, hidx i hlt]
      rw [show vLoad t (.elt (strC (l.getD i [])) 0) 1 false = some (strV (l.getD i [])) from rfl, getD_get _ _ hlt]
      simp only [strV, vCmp, vBin, toL]
      cases he : (k == l[i]) with
      | true =>
        simp only
        refine ⟨?_, trivial⟩
        rw [idxI_at hlt h2 he]
      | false =>
        simp only [if_true, wrap_add1 (show i < 9223372036854775807 by omega)]
        refine hK (i + 1) _ _ rfl ⟨hlt, rfl, fun x hx => ?_⟩ (by show l.length - (i + 1) < l.length - i; omega)
        rw [take_succ' [] l hlt, getD_get _ _ hlt] at hx
        rcases List.mem_append.1 hx with hx | hx
        · exact h2 x hx
        · simp only [List.mem_singleton] at hx; rw [hx]; exact he
    · simp only [hlt, decide_false, hcond]
      obtain rfl : i = l.length := by omega
      rw [List.take_length] at h2
      rw [idxI_none h2]
      exact ⟨rfl, trivial⟩
  refine hi.mono ?_
  rintro v t ⟨rfl, rfl⟩
  simp only [vBin, if_true, bindO]
  refine ⟨?_, trivial⟩
  congr 2
  rcases idxI_cases (fun x => k == x) (o.getD []) with ⟨h1, h2⟩ | ⟨i, h1, h2, h3, h4⟩
  · rw [h1]
    have : (o.getD []).contains k = false := by
      cases e : (o.getD []).contains k with
      | false => rfl
      | true =>
        have := List.contains_iff_mem.1 e
        have h5 := h2 k this
        simp at h5
    rw [this]
    rfl
  · rw [h2]
    have : (o.getD []).contains k = true := by
      rw [List.contains_iff_mem]
      have := eq_of_beq h3
      rw [this]
      exact List.getElem_mem h1
    rw [this]
    simp
theorem rows_getD {α : Type} {enc : α → List HV} {sz : Nat} (h : ∀ x, (enc x).length = sz) (z : α) (l : List α) {i j : Nat} (hi : i < l.length) (hj : j < sz) : (rows enc l)[i * sz + j]? = (enc (l.getD i z))[j]? := by
  have h3 := rows_idx h z l i hi
  rw [← h3, List.getElem?_take, if_pos hj, List.getElem?_drop]
/-- One cell of one share is put. -/
theorem put_row (L : List Sh) (i : Nat) (hi : i < L.length) (A : HV) (sl : List Slot) : putCells (rows shC L) (i * 2 + 1) [A] = rows shC (L.set i ⟨(L.getD i x0).who, A, sl⟩) := by
  induction L generalizing i with
  | nil => simp at hi
  | cons x L ih =>
    cases i with
    | zero => rfl
    | succ i =>
      have hi' : i < L.length := by simpa using hi
      have := ih i hi'
      simp only [putCells, List.length_singleton] at this ⊢
      rw [rows_cons, List.set_cons_succ, rows_cons, show (x :: L).getD (i + 1) x0 = L.getD i x0 from rfl, ← this, show (i + 1) * 2 + 1 = (i * 2 + 1) + 1 + 1 by omega]
      rfl
theorem gives29 {b t : HS} {q : Nat} {L : List Sh} (h : Shares b t q L) (hb : HS.le b t) (mv tv : HV) (n : Nat) (f : Bool) {i : Nat} (hn : n = L.length) (hi : i < L.length) (x : Slot) (hx : (L.getD i x0).sl.length < 1000000000000) :
    HC Tryd.prog 63 [.agg [mv, tv, .view q 0 2 n f], .lit (.int .i64 (i : Int)), .agg (slC x)] t (fun v t' => ∃ A, Shares b t' q (L.set i ⟨(L.getD i x0).who, A, (L.getD i x0).sl ++ [x]⟩) ∧ HS.le b t' ∧ ∀ k ob, t k = some ob → k ≠ q → accId (L.getD i x0).row ≠ some k → t' k = some ob) := by
  refine HC63 ?_
  unfold c63
  have hAi := h.acc (L.getD i x0) (by rw [getD_get _ _ hi]; exact List.getElem_mem hi)
  have hself := h.self (L.getD i x0) (by rw [getD_get _ _ hi]; exact List.getElem_mem hi)
  refine hbox_intro (hc_agg _) fun b1 hb1 => ?_
  have nb1 : ∀ k ob, t k = some ob → k ≠ b1 := fun k ob hk => ne_new hk hb1
  have e1 := set_at t b1 (.cells [mv, tv, .view q 0 2 n f])
  have keep1 : ∀ k ob, t k = some ob → (t.set b1 (.cells [mv, tv, .view q 0 2 n f])) k = some ob := fun k ob hk => by rw [set_ne _ _ (nb1 k ob hk)]; exact hk
  have hA1 := hAi.new (.cells [mv, tv, .view q 0 2 n f]) hb1
  have hle1 := le_set_new (.cells [mv, tv, .view q 0 2 n f]) hb hb1
  have hAb1 : accId (L.getD i x0).row ≠ some b1 := fun e => nb1 _ _ (hAi.free e).2 rfl
  generalize t.set b1 (.cells [mv, tv, .view q 0 2 n f]) = t1 at *
  refine hbox_intro (hc_agg _) fun b2 hb2 => ?_
  have e2 := set_at t1 b2 (.cells (slC x))
  have e12 : (t1.set b2 (.cells (slC x))) b1 = some (.cells [mv, tv, .view q 0 2 n f]) := by rw [set_ne _ _ (ne_new e1 hb2)]; exact e1
  have keep2 : ∀ k ob, t k = some ob → (t1.set b2 (.cells (slC x))) k = some ob := fun k ob hk => by rw [set_ne _ _ (ne_new (keep1 k ob hk) hb2)]; exact keep1 k ob hk
  have hA2 := hA1.new (.cells (slC x)) hb2
  have hle2 := le_set_new (.cells (slC x)) hle1 hb2
  generalize t1.set b2 (.cells (slC x)) = t2 at *
  have hq2 := keep2 _ _ h.at_
  have l5 : vLoad t2 (.ptr b1 (0 + 2)) 1 false = some (.view q 0 2 n f) := load_cell 2 1 e12
  have l10 : vLoad t2 (.ptr q (i * 2 + 1)) 1 false = some (L.getD i x0).row := by
    rw [load_cell _ 1 hq2, rows_getD shC_len x0 L hi (by omega)]; rfl
  have l12 : vLoad t2 (.ptr b2 0) 2 true = some (.agg (slC x)) := load_all (slC_len x) e2
  simp only [vField, bindO, l5, lay_idx (show i < n by omega), l10, l12]
  have key := hA2.app1W (by_ := 24) (zs := [.lit (.string .empty), .lit (.int .i64 0)]) (W := fun s14 => vLoad s14 (.ptr q (i * 2 + 1)) 1 false = some (L.getD i x0).row ∧ vLoad s14 (.ptr b1 (0 + 2)) 1 false = some (.view q 0 2 n f)) (K := fun x15 s16 => vLoad s16 (.ptr b1 (0 + 2)) 1 false = some (.view q 0 2 n f) ∧ hStore s16 (.ptr q (i * 2 + 1)) x15 1 (fun s19 => ∃ A, Shares b s19 q (L.set i ⟨(L.getD i x0).who, A, (L.getD i x0).sl ++ [x]⟩) ∧ HS.le b s19 ∧ ∀ k ob, t k = some ob → k ≠ q → accId (L.getD i x0).row ≠ some k → s19 k = some ob)) hle2 (hc_agg (slC x)) rfl rfl ⟨by omega, by omega⟩ ?_ ?_
  · refine hBS_mono key fun v s hh => ?_
    obtain ⟨⟨w1, w2⟩, w3⟩ := hh
    refine ⟨w1, w2, w2, ?_⟩
    rw [w2]
    exact w3
  · intro id hid
    have f1 : (t2.set id (.cells (slC x))) q = some (.cells (rows shC L)) := by rw [set_ne _ _ (ne_new hq2 hid)]; exact hq2
    have f2 : (t2.set id (.cells (slC x))) b1 = some (.cells [mv, tv, .view q 0 2 n f]) := by rw [set_ne _ _ (ne_new e12 hid)]; exact e12
    refine ⟨?_, load_cell 2 1 f2⟩
    rw [load_cell _ 1 f1, rows_getD shC_len x0 L hi (by omega)]; rfl
  · intro A' t' k1 k2 k3
    obtain ⟨m1, m2⟩ := k3 b1 _ hAb1 e12
    obtain ⟨m3, m4⟩ := k3 q _ hself hq2
    refine ⟨load_cell 2 1 m1, ?_⟩
    have hpl : i * 2 + 1 + 1 ≤ (rows shC L).length := by rw [rows_len shC_len]; omega
    simp only [hStore, k1.hc, m3]
    refine ⟨by trivial, hpl, by simp [k1.one], A', ?_, le_set_free _ k2 h.free, ?_⟩
    · rw [put_row L i hi]
      have gj : ∀ j, j < L.length → j ≠ i → (L.set i ⟨(L.getD i x0).who, A', (L.getD i x0).sl ++ [x]⟩).getD j x0 = L.getD j x0 := fun j hj hne => by
        rw [List.getD, List.getElem?_set_ne (fun e => hne e.symm)]; rfl
      have gi : (L.set i ⟨(L.getD i x0).who, A', (L.getD i x0).sl ++ [x]⟩).getD i x0 = ⟨(L.getD i x0).who, A', (L.getD i x0).sl ++ [x]⟩ := by
        rw [List.getD, List.getElem?_set_self hi]; rfl
      have mem : ∀ j, j < L.length → L.getD j x0 ∈ L := fun j hj => by rw [getD_get _ _ hj]; exact List.getElem_mem hj
      have far : ∀ j, j < L.length → j ≠ i → ∀ k, accId (L.getD j x0).row = some k → accId (L.getD i x0).row ≠ some k := fun j hj hne k hk e => by
        rcases Nat.lt_or_ge i j with hlt | hge
        · rcases h.apart i j hlt hj with h1 | h1
          · rw [h1] at e; cases e
          · exact h1 (by rw [e, hk])
        · rcases h.apart j i (by omega) hi with h1 | h1
          · rw [h1] at hk; cases hk
          · exact h1 (by rw [e, hk])
      have cells : ∀ j, j < L.length → ∀ k, accId (L.getD j x0).row = some k → t k = some (.cells (rows slC (L.getD j x0).sl)) := fun j hj k hk => ((h.acc _ (mem j hj)).free hk).2
      refine ⟨h.free, set_at _ _ _, fun y hy => ?_, fun a c hac hc => ?_, fun y hy => ?_⟩
      · obtain ⟨j, hj, rfl⟩ := List.mem_iff_getElem.1 hy
        rw [List.length_set] at hj
        rw [← getD_get x0 _ (by rw [List.length_set]; exact hj)]
        by_cases hji : j = i
        · subst hji
          rw [gi]
          refine Acc.put ?_ _ m4
          rw [rows_app, rows_one, List.length_append]
          exact k1
        · rw [gj j hj hji]
          refine ((h.acc _ (mem j hj)).keep fun k ob hk hob => ?_).put _ (h.self _ (mem j hj))
          exact (k3 k ob (far j hj hji k hk) (keep2 k ob hob)).1
      · rw [List.length_set] at hc
        by_cases hai : a = i
        · subst hai
          rw [gi, gj c hc (by omega)]
          cases e : accId (L.getD c x0).row with
          | none =>
            cases e2 : accId A' with
            | none => exact .inl rfl
            | some k => exact .inr (fun h => by cases h)
          | some k => exact .inr (k3 k _ (far c hc (by omega) k e) (keep2 k _ (cells c hc k e))).2
        · by_cases hci : c = i
          · subst hci
            rw [gi, gj a (by omega) hai]
            cases e : accId (L.getD a x0).row with
            | none => exact .inl rfl
            | some k => exact .inr fun e2 => (k3 k _ (far a (by omega) hai k e) (keep2 k _ (cells a (by omega) k e))).2 e2.symm
          · rw [gj a (by omega) hai, gj c hc hci]
            exact h.apart a c hac hc
      · obtain ⟨j, hj, rfl⟩ := List.mem_iff_getElem.1 hy
        rw [List.length_set] at hj
        rw [← getD_get x0 _ (by rw [List.length_set]; exact hj)]
        by_cases hji : j = i
        · subst hji
          rw [gi]
          exact m4
        · rw [gj j hj hji]
          exact h.self _ (mem j hj)
    · intro k ob hk hkq hkA
      rw [set_ne _ _ hkq]
      exact (k3 k ob hkA (keep2 k ob hk)).1
end Go.Proofs.YtkcgokkgefgcjaaDoor.AS
end
section
namespace Go.Proofs.YtkcgokkgefgcjaaDoor.AS
open Go.Proofs.YtkcgokkgefgcjaaDoor.H Go.Proofs.YtkcgokkgefgcjaaDoor.G0 Go.Proofs.YtkcgokkgefgcjaaDoor.G1
set_option linter.unusedVariables false
set_option linter.unusedSimpArgs false
set_option maxRecDepth 100000
def badT (t : Top) : Bool := decide (t.parts < 0) || decide (1000 < t.parts)
theorem bad42 (x : Top) (s : HS) : HC Tryd.prog 69 [.agg (topC x)] s (fun v t => t = s ∧ v = .lit (.bool (badT x))) := by
  refine HC.weaken (HC69 ?_)
  unfold c69
  refine hbox_intro (hc_agg _) fun p hp => ?_
  have l1 : vLoad (s.set p (.cells (topC x))) (.ptr p (0 + 1)) 1 false = some (.lit (.int .i64 x.parts)) := load_cell 1 1 (set_at _ _ _)
  simp only [vField, bindO, l1, vBin, if_true]
  have hle := le_set_new (.cells (topC x)) (le_refl' s) hp
  by_cases h1 : x.parts < 0
  · simp only [h1, decide_true, hcond]
    exact ⟨s, hle, rfl, by simp [badT, h1]⟩
  · simp only [h1, decide_false, hcond]
    exact ⟨s, hle, rfl, by simp [badT, h1]⟩
theorem any41 {s : HS} {A : HV} {l : List Top} (h : RowV s 2 A l.length (rows topC l)) (hl : l.length ≤ 1000000) : HC Tryd.prog 68 [A, .func (.func 69) []] s (fun v t => t = s ∧ v = .lit (.bool (l.any badT))) := by
  refine HC68 ?_
  unfold c68
  have hp : plainFn Tryd.prog 69 = true := by unfold plainFn; rw [Tryd.func69]; rfl
  have hi : HC Tryd.prog 84 [A, .func (.func 69) []] s (fun v t => v = .lit (.int .i64 (idxI badT l)) ∧ t = s) := by
    refine HC84 ?_
    rcases h with ⟨rfl, h2, h3⟩ | ⟨q, f, rfl, h2, h3⟩
    · obtain rfl : l = [] := List.eq_nil_of_length_eq_zero h3
      exact idxFunc_nil (Q := fun v t => v = .lit (.int .i64 (idxI badT [])) ∧ t = s) ⟨rfl, rfl⟩
    · refine idxFunc_gen (Q := fun v t => v = .lit (.int .i64 (idxI badT l)) ∧ t = s) topC_len t0 badT (rest := []) (by rw [List.append_nil]; exact h2) (by omega) (fun x hx K hK => ?_) ⟨rfl, rfl⟩
      simp only [hcall, hite_eq, hp, if_true, List.append_nil]
      refine (bad42 x s).mono ?_
      rintro v t ⟨rfl, rfl⟩
      exact hK
  refine hi.mono ?_
  rintro v t ⟨rfl, rfl⟩
  simp only [vBin, if_true, bindO]
  refine ⟨trivial, ?_⟩
  congr 2
  rcases idxI_cases badT l with ⟨h1, h2⟩ | ⟨i, h1, h2, h3, h4⟩
  · rw [h1, List.any_eq_false.2 fun x hx => by simp [h2 x hx]]
    rfl
  · rw [h2, List.any_eq_true.2 ⟨_, List.getElem_mem h1, h3⟩]
    simp
def okA (l : List Mem) (tl : List Top) : Prop := tl.any badT = false ∧ (l.map Mem.id).Nodup ∧ (tl.map Top.name).Nodup
def mk0 (l : List Mem) : List Sh := l.map fun m => ⟨m.id, nilV, []⟩
theorem acc0_one {b t : HS} {sz : Nat} {A : HV} {n : Nat} {cs : List HV} (h : Acc0 b t sz A n cs) : hone A = true ∧ hcells A = some [A] := by
  rcases h with h | ⟨-, -, q, -, rfl, -⟩
  · exact ⟨h.one, h.hc⟩
  · exact ⟨rfl, rfl⟩
theorem row_del {t : HS} {sz : Nat} {A : HV} {n : Nat} {cs : List HV} {b : HS} {p : Nat} (h : Acc0 b t sz A n cs) (hp : b p ≠ none) : RowV (t.del p) sz A n cs := by
  have hd : ∀ q ob, b q = none → t q = some ob → (t.del p) q = some ob := fun q ob hq ht => by
    have : q ≠ p := by rintro rfl; exact hp hq
    simp only [HS.del, if_neg this]; exact ht
  rcases h with (⟨h1, h2, h3⟩ | ⟨q, f, h1, rfl, h3, h4, h5⟩) | ⟨rfl, rfl, q, h1, rfl, h3⟩
  · exact .inl ⟨h1, h2, h3⟩
  · exact .inr ⟨q, f, rfl, hd _ _ h1 h3, h4⟩
  · exact .inr ⟨q, true, rfl, hd _ _ h1 h3, by simp⟩
def postOpen (l : List Mem) (tl : List Top) (s : HS) (v : HV) (u : HS) : Prop :=
  HS.le s u ∧ ((¬ okA l tl ∧ ∃ x y z, v = .tup [.agg [x, y, z], .lit (.bool false)] ∧ hone x = true ∧ hone y = true ∧ hone z = true) ∨
    (okA l tl ∧ ∃ ms ts A1 A2 SH b, ms.Perm l ∧ ts.Perm tl ∧ ms.Pairwise (fun x y => ltM x y = true) ∧ ts.Pairwise (fun x y => ltT x y = true) ∧ v = .tup [.agg [A1, A2, SH], .lit (.bool true)] ∧ hone A1 = true ∧ hone A2 = true ∧ hcells A2 = some [A2] ∧ HS.le s b ∧ HS.le b u ∧ RowV b 2 A1 ms.length (rows memC ms) ∧
      RowV b 2 A2 ts.length (rows topC ts) ∧ ((ms = [] ∧ SH = nilV) ∨ ∃ q f, SH = .view q 0 2 ms.length f ∧ Shares b u q (mk0 ms))))
theorem open27 {s : HS} {A B : HV} {l : List Mem} {tl : List Top} (hA : RowV s 2 A l.length (rows memC l)) (hB : RowV s 2 B tl.length (rows topC tl)) (hl : l.length ≤ 1000000) (htl : tl.length ≤ 1000000) :
    HC Tryd.prog 60 [A, B] s (fun v u => postOpen l tl s v u) := by
  refine HC60 ?_
  unfold c60
  intro p hp
  have ep := set_at s p (.cells [.lit (.slice none 0 0), .lit (.slice none 0 0), .lit (.slice none 0 0)])
  have hle1 := le_set_new (.cells [.lit (.slice none 0 0), .lit (.slice none 0 0), .lit (.slice none 0 0)]) (le_refl' s) hp
  generalize s.set p (.cells [.lit (.slice none 0 0), .lit (.slice none 0 0), .lit (.slice none 0 0)]) = s1 at *
  refine (any41 (hB.le hle1) htl).mono ?_
  rintro v t ⟨rfl, rfl⟩
  cases hbad : tl.any badT with
  | true =>
    simp only [hcond]
    rw [load_all (n := 3) rfl ep]
    simp only [bindO]
    refine store_all ep rfl rfl (by intro x hx; simp at hx; subst hx; rfl) ?_
    rw [load_all (n := 3) rfl (set_at _ _ _)]
    refine ⟨le_set_free _ hle1 hp, .inl ⟨fun h => ?_, _, _, _, rfl, rfl, rfl, rfl⟩⟩
    rw [h.1] at hbad; cases hbad
  | false =>
    simp only [hcond]
    refine (sorted43 (hA.le hle1) hl).mono ?_
    rintro v s9 ⟨hle9, h9⟩
    obtain ⟨okm, ms, A1, rfl, hm1, hm2, hmr⟩ : ∃ (okm : Bool) (ms : List Mem) (A1 : HV), v = .tup [A1, .lit (.bool okm)] ∧ (okm = true ↔ (l.map Mem.id).Nodup) ∧ (okm = true → ms.Perm l ∧ ms.Pairwise (fun x y => ltM x y = true)) ∧ Acc0 t s9 2 A1 ms.length (rows memC ms) ∧ ms.length ≤ 1000000 := by
      rcases h9 with ⟨h1, rfl⟩ | ⟨h1, l', h2, h3, A', rfl, h4⟩
      · exact ⟨false, [], nilV, rfl, ⟨fun h => (by cases h), fun h => absurd h h1⟩, fun h => (by cases h), .inl (Acc.nil _ _ _), by simp⟩
      · exact ⟨true, l', A', rfl, ⟨fun _ => h1, fun _ => rfl⟩, fun _ => ⟨h2, h3⟩, h4, by rw [h2.length_eq]; exact hl⟩
    obtain ⟨hmA, hml⟩ := hmr
    clear h9
    simp only [vExtract, List.getElem?_cons_zero, List.getElem?_cons_succ, bindO]
    refine (sorted45 ((hB.le hle1).le hle9) htl).mono ?_
    rintro v s13 ⟨hle13, h13⟩
    obtain ⟨okt, ts, A2, rfl, ht1, ht2, htA⟩ : ∃ (okt : Bool) (ts : List Top) (A2 : HV), v = .tup [A2, .lit (.bool okt)] ∧ (okt = true ↔ (tl.map Top.name).Nodup) ∧ (okt = true → ts.Perm tl ∧ ts.Pairwise (fun x y => ltT x y = true)) ∧ Acc0 s9 s13 2 A2 ts.length (rows topC ts) := by
      rcases h13 with ⟨h1, rfl⟩ | ⟨h1, l', h2, h3, A', rfl, h4⟩
      · exact ⟨false, [], nilV, rfl, ⟨fun h => (by cases h), fun h => absurd h h1⟩, fun h => (by cases h), .inl (Acc.nil _ _ _)⟩
      · exact ⟨true, l', A', rfl, ⟨fun _ => h1, fun _ => rfl⟩, fun _ => ⟨h2, h3⟩, h4⟩
    clear h13
    have ep9 := hle9 _ _ ep
    have ep13 := hle13 _ _ ep9
    obtain ⟨b, hbdef⟩ : ∃ b, s13.del p = b := ⟨_, rfl⟩
    have hbp : b p = none := by rw [← hbdef]; simp [HS.del]
    have hsb : HS.le s b := by rw [← hbdef]; exact le_del_free (HS.le.trans hle1 (HS.le.trans hle9 hle13)) hp
    have hb13 : HS.le b s13 := by rw [← hbdef]; exact le_del _ _
    have hmA13 : Acc0 t s13 2 A1 ms.length (rows memC ms) := by
      rcases hmA with h | ⟨h1, h2, q, h3, h4, h5⟩
      · exact .inl (h.le hle13)
      · exact .inr ⟨h1, h2, q, h3, h4, hle13 _ _ h5⟩
    have r1 : RowV b 2 A1 ms.length (rows memC ms) := by rw [← hbdef]; exact row_del hmA13 (by rw [ep]; exact fun h => by cases h)
    have r2 : RowV b 2 A2 ts.length (rows topC ts) := by rw [← hbdef]; exact row_del htA (by rw [ep9]; exact fun h => by cases h)
    have o1 := acc0_one hmA
    have o2 := acc0_one htA
    simp only [vExtract, List.getElem?_cons_zero, List.getElem?_cons_succ]
    rw [show vMk [(0, 1), (1, 1), (2, 1)] [.lit (.slice none 0 0), .lit (.slice none 0 0), .lit (.slice none 0 0)] [(0, A1), (1, A2)] = some (.agg [A1, A2, nilV]) by simp [vMk, hfill, o1.2, o2.2]]
    refine store_all ep13 rfl rfl (by intro x hx; simp at hx; rcases hx with rfl | rfl | rfl; exact o1.1; exact o2.1; rfl) ?_
    have hbt : HS.le b (s13.set p (.cells [A1, A2, nilV])) := le_set_free _ hb13 hbp
    have ept := set_at s13 p (.cells [A1, A2, nilV])
    generalize s13.set p (.cells [A1, A2, nilV]) = u0 at hbt ept ⊢
    rw [show vLenT (Tryd.prog.underlying 92) u0 A1 = some (.lit (.int .i64 (ms.length : Int))) from r1.len _ _]
    simp only
    refine HLoop.ghost (σ := HV × Nat) (fun g => [.lit (.int .i64 (g.2 : Int))]) (fun g u => g.2 ≤ ms.length ∧ u p = some (.cells [A1, A2, g.1]) ∧ HS.le b u ∧ accId g.1 ≠ some p ∧ Acc b u 2 g.1 g.2 (rows shC (mk0 (ms.take g.2)))) (fun g => ms.length - g.2) (nilV, 0) rfl ⟨Nat.zero_le _, ept, hbt, (by rintro ⟨⟩), Acc.nil _ _ _⟩ ?_
    rintro ⟨SH, i⟩ u K ⟨k1, k2, k3, k4, k5⟩ hK
    simp only at k1 k2 k3 k4 k5
    simp only [List.headD_cons, lss_i]
    by_cases hi : i < ms.length
    · obtain ⟨q, x1, y1⟩ := r1.at_ memC_len m0 hi
      simp only [hi, decide_true, hcond, x1, (y1 u k3).1]
      have hts : mk0 (ms.take (i + 1)) = mk0 (ms.take i) ++ [⟨(ms.getD i m0).id, nilV, []⟩] := by rw [take_succ' m0 ms hi]; simp [mk0]
      generalize ms.getD i m0 = m at *
      refine new_store rfl rfl (memC_one m) fun X hX => ?_
      have nXp := ne_new k2 hX
      have c1 : (u.set X (.cells (memC m))) p = some (.cells [A1, A2, SH]) := by rw [set_ne _ _ nXp]; exact k2
      have c2 := set_at u X (.cells (memC m))
      have c3 := k5.new (.cells (memC m)) hX
      have c4 := le_set_new (.cells (memC m)) k3 hX
      generalize u.set X (.cells (memC m)) = u1 at *
      have l1 : vLoad u1 (.ptr p (0 + 2)) 1 false = some SH := load_cell 2 1 c1
      have l2 : vLoad u1 (.ptr X (0 + 0)) 1 false = some (strV m.id) := load_cell 0 1 c2
      simp only [vField, l1, l2]
      rw [show vMk [(0, 1), (1, 1)] [.lit (.string .empty), .lit (.slice none 0 0)] [(0, strV m.id)] = some (.agg (shC ⟨m.id, nilV, []⟩)) by simp [vMk, hfill, strV, hc_string]; rfl]
      refine c3.app1 c4 (hc_agg _) rfl rfl ⟨by omega, by omega⟩ fun A' u2 g1 g2 g3 => ?_
      obtain ⟨d1, d2⟩ := g3 p _ k4 c1
      simp only [hStore, g1.hc, d1]
      refine ⟨by trivial, by simp, by simp [g1.one], ?_⟩
      rw [wlit1, add_i (show i + 1 < 9223372036854775808 by omega)]
      refine hK (A', i + 1) _ _ rfl ⟨hi, set_at _ _ _, le_set_free _ g2 hbp, d2, ?_⟩ (by show ms.length - (i + 1) < ms.length - i; omega)
      show Acc b _ 2 A' (i + 1) (rows shC (mk0 (ms.take (i + 1))))
      rw [hts, rows_app, rows_one]
      exact g1.put _ d2
    · obtain rfl : i = ms.length := by omega
      rw [List.take_length] at k5
      simp only [hi, decide_false, hcond]
      have hone3 : ∀ x ∈ [A1, A2, SH], hone x = true := by intro x hx; simp at hx; rcases hx with rfl | rfl | rfl; exact o1.1; exact o2.1; exact k5.one
      rw [load_all (n := 3) rfl k2]
      have hfin : ∀ (c : Bool), (c = true ↔ okA l tl) → postOpen l tl s (.tup [.agg [A1, A2, SH], .lit (.bool c)]) (u.set p (.cells [A1, A2, SH])) := fun c hc => by
        refine ⟨HS.le.trans hsb (le_set_free _ k3 hbp), ?_⟩
        cases c with
        | false => exact .inl ⟨fun h => (by cases hc.2 h), _, _, _, rfl, o1.1, o2.1, k5.one⟩
        | true =>
          have hok := hc.1 rfl
          obtain ⟨e1, e2⟩ := hm2 (hm1.2 hok.2.1)
          obtain ⟨e3, e4⟩ := ht2 (ht1.2 hok.2.2)
          refine .inr ⟨hok, ms, ts, A1, A2, SH, b, e1, e3, e2, e4, rfl, o1.1, o2.1, o2.2, hsb, le_set_free _ k3 hbp, r1, r2, ?_⟩
          rcases k5 with ⟨h1, h2, h3⟩ | ⟨q, f, h1, rfl, h3, h4, h5⟩
          · exact .inl ⟨List.eq_nil_of_length_eq_zero h3, h1⟩
          · refine .inr ⟨q, f, rfl, h1, by rw [set_ne _ _ (fun e => k4 (by rw [e]; rfl))]; exact h3, fun x hx => ?_, fun i j hij hj => ?_, fun x hx => ?_⟩
            · obtain ⟨m, -, rfl⟩ := List.mem_map.1 hx
              exact Acc.nil _ _ _
            · left
              rw [getD_get _ _ (show i < (mk0 ms).length by omega)]
              simp [mk0]; rfl
            · obtain ⟨m, -, rfl⟩ := List.mem_map.1 hx
              rintro ⟨⟩
      cases okm with
      | true =>
        simp only
        refine store_all k2 rfl rfl hone3 ?_
        rw [load_all (n := 3) rfl (set_at _ _ _)]
        exact hfin okt ⟨fun h => ⟨hbad, hm1.1 rfl, ht1.1 h⟩, fun h => ht1.2 h.2.2⟩
      | false =>
        simp only
        refine store_all k2 rfl rfl hone3 ?_
        rw [load_all (n := 3) rfl (set_at _ _ _)]
        exact hfin false ⟨fun h => (by cases h), fun h => (by have := hm1.2 h.2.1; cases this)⟩
end Go.Proofs.YtkcgokkgefgcjaaDoor.AS
end
section
namespace Go.Proofs.YtkcgokkgefgcjaaDoor.AS
open Go.Proofs.YtkcgokkgefgcjaaDoor.H Go.Proofs.YtkcgokkgefgcjaaDoor.G0 Go.Proofs.YtkcgokkgefgcjaaDoor.G1
set_option linter.unusedVariables false
set_option linter.unusedSimpArgs false
set_option maxRecDepth 100000
abbrev DD := List (By × List Slot)
def d0 : By × List Slot := ([], [])
def giveD (D : DD) (i : Nat) (x : Slot) : DD := D.set i ((D.getD i d0).1, (D.getD i d0).2 ++ [x])
def giveA (D : DD) (l : List (Nat × Slot)) : DD := l.foldl (fun D p => giveD D p.1 p.2) D
theorem giveD_len (D : DD) (i : Nat) (x : Slot) : (giveD D i x).length = D.length := by simp [giveD]
theorem giveA_len : ∀ (l : List (Nat × Slot)) (D : DD), (giveA D l).length = D.length
  | [], D => rfl
  | p :: l, D => by
    show (giveA (giveD D p.1 p.2) l).length = _
    rw [giveA_len l, giveD_len]
theorem giveA_app (D : DD) (a c : List (Nat × Slot)) : giveA D (a ++ c) = giveA (giveA D a) c := List.foldl_append
def dOf (x : Sh) : By × List Slot := (x.who, x.sl)
/-- Shares, told by what they hold. -/
def SharesP (b u : HS) (SH : HV) (D : DD) : Prop := (D = [] ∧ SH = nilV) ∨ ∃ q f L, L.map dOf = D ∧ SH = .view q 0 2 D.length f ∧ Shares b u q L
theorem SharesP.base {b c u : HS} {SH : HV} {D : DD} (h : SharesP c u SH D) (hle : HS.le b c) : SharesP b u SH D := by
  rcases h with h | ⟨q, f, L, h1, h2, h3⟩
  · exact .inl h
  · exact .inr ⟨q, f, L, h1, h2, ⟨none_of_le hle h3.free, h3.at_, fun x hx => (h3.acc x hx).base hle, h3.apart, h3.self⟩⟩
theorem SharesP.le {b u v : HS} {SH : HV} {D : DD} (h : SharesP b u SH D) (hle : HS.le u v) : SharesP b v SH D := by
  rcases h with h | ⟨q, f, L, h1, h2, h3⟩
  · exact .inl h
  · exact .inr ⟨q, f, L, h1, h2, ⟨h3.free, hle _ _ h3.at_, fun x hx => (h3.acc x hx).le hle, h3.apart, h3.self⟩⟩
/-- What lies elsewhere may be counted to what lies still. -/
theorem SharesP.grow {b u : HS} {SH : HV} {D : DD} (h : SharesP b u SH D) {k : Nat} (hk : u k = none) (ob : HObj) : SharesP (b.set k ob) u SH D := by
  rcases h with h | ⟨q, f, L, h1, h2, h3⟩
  · exact .inl h
  · have hne : ∀ j o, u j = some o → j ≠ k := fun j o hj e => by rw [e, hk] at hj; cases hj
    refine .inr ⟨q, f, L, h1, h2, ⟨by rw [set_ne _ _ (hne _ _ h3.at_)]; exact h3.free, h3.at_, fun x hx => ?_, h3.apart, h3.self⟩⟩
    rcases h3.acc x hx with h | ⟨r, g, e1, e2, e3, e4, e5⟩
    · exact .inl h
    · exact .inr ⟨r, g, by rw [set_ne _ _ (hne _ _ e3)]; exact e1, e2, e3, e4, e5⟩
theorem le_set_both {b u : HS} (h : HS.le b u) {k : Nat} {ob : HObj} (hk : u k = some ob) : HS.le (b.set k ob) u := fun j o hj => by
  simp only [HS.set] at hj
  split at hj
  · rename_i e; rw [e, hk]; exact hj
  · exact h j o hj
theorem gives29P {b t : HS} {SH : HV} {D : DD} (h : SharesP b t SH D) (hb : HS.le b t) (mv tv : HV) {i : Nat} (hi : i < D.length) (x : Slot) (hx : (D.getD i d0).2.length < 1000000000000) :
    HC Tryd.prog 63 [.agg [mv, tv, SH], .lit (.int .i64 (i : Int)), .agg (slC x)] t (fun v t' => SharesP b t' SH (giveD D i x) ∧ HS.le b t') := by
  rcases h with ⟨rfl, rfl⟩ | ⟨q, f, L, rfl, rfl, h3⟩
  · simp at hi
  · have hi' : i < L.length := by simpa using hi
    have hg : (L.map dOf).getD i d0 = dOf (L.getD i x0) := by
      rw [List.getD, List.getElem?_map, List.getElem?_eq_getElem hi', getD_get _ _ hi']; rfl
    rw [hg] at hx
    refine (gives29 h3 hb mv tv (L.map dOf).length f (by simp) hi' x hx).mono ?_
    rintro v t' ⟨A, k1, k2, -⟩
    refine ⟨.inr ⟨q, f, _, ?_, by rw [giveD_len], k1⟩, k2⟩
    unfold giveD
    rw [hg, List.map_set]
    rfl
theorem sharesP_start {b u : HS} {SH : HV} {ms : List Mem} (h : (ms = [] ∧ SH = nilV) ∨ ∃ q f, SH = .view q 0 2 ms.length f ∧ Shares b u q (mk0 ms)) : SharesP b u SH (ms.map fun m => (m.id, [])) := by
  rcases h with ⟨rfl, h⟩ | ⟨q, f, h1, h2⟩
  · exact .inl ⟨rfl, h⟩
  · refine .inr ⟨q, f, mk0 ms, ?_, by rw [List.length_map]; exact h1, h2⟩
    simp [mk0, dOf]
/-- Who reads a topic. -/
def whoOf (ms : List Mem) (t : Top) (n : Nat) : List Nat := (List.range n).filter fun i => ((ms.getD i m0).tp.getD []).contains t.name
theorem whoOf_succ (ms : List Mem) (t : Top) (n : Nat) : whoOf ms t (n + 1) = whoOf ms t n ++ (if ((ms.getD n m0).tp.getD []).contains t.name then [n] else []) := by
  unfold whoOf
  rw [List.range_succ, List.filter_append]
  congr 1
  generalize hf : (fun i => ((ms.getD i m0).tp.getD []).contains t.name) = p
  have hp : ((ms.getD n m0).tp.getD []).contains t.name = p n := by rw [← hf]
  rw [hp]
  cases h : p n <;> simp [h]
theorem whoOf_len (ms : List Mem) (t : Top) (n : Nat) : (whoOf ms t n).length ≤ n := by
  have := List.length_filter_le (fun i => ((ms.getD i m0).tp.getD []).contains t.name) (List.range n)
  simpa [whoOf] using this
theorem whoOf_lt (ms : List Mem) (t : Top) (n : Nat) : ∀ i ∈ whoOf ms t n, i < n := fun i hi => by
  have := (List.mem_filter.1 hi).1
  simpa using this
/-- How many parts the k-th of n gets, and where its parts begin. -/
def cnt (parts n k : Nat) : Nat := parts / n + if k < parts % n then 1 else 0
def cum (parts n : Nat) : Nat → Nat
  | 0 => 0
  | k + 1 => cum parts n k + cnt parts n k
def asgK (nm : By) (parts : Nat) (who : List Nat) (k j : Nat) : List (Nat × Slot) := (List.range j).map fun x => (who.getD k 0, (nm, ((cum parts who.length k + x : Nat) : Int)))
def asgT (nm : By) (parts : Nat) (who : List Nat) (k : Nat) : List (Nat × Slot) := (List.range k).flatMap fun k => asgK nm parts who k (cnt parts who.length k)
theorem asgT_succ (nm : By) (parts : Nat) (who : List Nat) (k : Nat) : asgT nm parts who (k + 1) = asgT nm parts who k ++ asgK nm parts who k (cnt parts who.length k) := by
  simp [asgT, List.range_succ]
theorem asgK_succ (nm : By) (parts : Nat) (who : List Nat) (k j : Nat) : asgK nm parts who k (j + 1) = asgK nm parts who k j ++ [(who.getD k 0, (nm, ((cum parts who.length k + j : Nat) : Int)))] := by
  simp [asgK, List.range_succ]
/-- What Range gives. -/
def rangeA (ms : List Mem) (ts : List Top) : List (Nat × Slot) := ts.flatMap fun t => asgT t.name t.parts.toNat (whoOf ms t ms.length) (whoOf ms t ms.length).length
theorem cum_eq (parts n : Nat) : ∀ k, cum parts n k = k * (parts / n) + min k (parts % n)
  | 0 => by simp [cum]
  | k + 1 => by
    rw [cum, cum_eq parts n k, cnt, Nat.succ_mul]
    split <;> omega
theorem cum_le {parts n k : Nat} (hk : k ≤ n) : cum parts n k ≤ parts := by
  rw [cum_eq]
  have h1 := Nat.mul_le_mul_right (parts / n) hk
  have h2 := Nat.div_add_mod parts n
  have h3 : min k (parts % n) ≤ parts % n := Nat.min_le_right _ _
  omega
theorem asgK_len (nm : By) (parts : Nat) (who : List Nat) (k j : Nat) : (asgK nm parts who k j).length = j := by simp [asgK]
theorem asgT_len (nm : By) (parts : Nat) (who : List Nat) : ∀ k, (asgT nm parts who k).length = cum parts who.length k
  | 0 => rfl
  | k + 1 => by rw [asgT_succ, List.length_append, asgT_len nm parts who k, asgK_len, cum]
theorem giveD_sl (D : DD) (i : Nat) (x : Slot) (j : Nat) : ((giveD D i x).getD j d0).2.length ≤ (D.getD j d0).2.length + 1 := by
  unfold giveD
  simp only [List.getD, List.getElem?_set]
  by_cases h : i = j
  · subst h
    by_cases hi : i < D.length
    · simp [hi]
    · simp [hi]
  · simp [h]
theorem giveA_sl : ∀ (l : List (Nat × Slot)) (D : DD) (j : Nat), ((giveA D l).getD j d0).2.length ≤ (D.getD j d0).2.length + l.length
  | [], D, j => Nat.le_refl _
  | p :: l, D, j => by
    have h1 := giveA_sl l (giveD D p.1 p.2) j
    have h2 := giveD_sl D p.1 p.2 j
    show ((giveA (giveD D p.1 p.2) l).getD j d0).2.length ≤ _
    rw [List.length_cons]
    omega
theorem rangeA_len (ms : List Mem) : ∀ (ts : List Top), (∀ t ∈ ts, t.parts ≤ 1000) → (rangeA ms ts).length ≤ 1000 * ts.length
  | [], _ => by simp [rangeA]
  | t :: ts, h => by
    have h1 := rangeA_len ms ts fun x hx => h x (List.mem_cons_of_mem _ hx)
    have h2 := h t List.mem_cons_self
    have h3 : (rangeA ms (t :: ts)).length = (asgT t.name t.parts.toNat (whoOf ms t ms.length) (whoOf ms t ms.length).length).length + (rangeA ms ts).length := by simp [rangeA]
    rw [h3, asgT_len, List.length_cons]
    have h4 := cum_le (parts := t.parts.toNat) (Nat.le_refl (whoOf ms t ms.length).length)
    omega
theorem rangeA_take (ms : List Mem) (ts : List Top) {i : Nat} (hi : i < ts.length) : rangeA ms (ts.take (i + 1)) = rangeA ms (ts.take i) ++ asgT (ts.getD i t0).name (ts.getD i t0).parts.toNat (whoOf ms (ts.getD i t0) ms.length) (whoOf ms (ts.getD i t0) ms.length).length := by
  rw [take_succ' t0 ts hi]
  simp [rangeA]
end Go.Proofs.YtkcgokkgefgcjaaDoor.AS
end
section
namespace Go.Proofs.YtkcgokkgefgcjaaDoor.AS
open Go.Proofs.YtkcgokkgefgcjaaDoor.H Go.Proofs.YtkcgokkgefgcjaaDoor.G0 Go.Proofs.YtkcgokkgefgcjaaDoor.G1
set_option linter.unusedVariables false
set_option linter.unusedSimpArgs false
set_option maxRecDepth 100000
def intC (n : Nat) : List HV := [.lit (.int .i64 (n : Int))]
def postRange (rg : List Mem → List Top → List (Nat × Slot)) (l : List Mem) (tl : List Top) (s : HS) (v : HV) (u : HS) : Prop :=
  HS.le s u ∧ ((¬ okA l tl ∧ v = .tup [nilV, .lit (.int .i64 1)]) ∨ (okA l tl ∧ ∃ ms ts SH, ms.Perm l ∧ ts.Perm tl ∧ ms.Pairwise (fun x y => ltM x y = true) ∧ ts.Pairwise (fun x y => ltT x y = true) ∧ v = .tup [SH, .lit (.int .i64 0)] ∧ SharesP s u SH (giveA (ms.map fun m => (m.id, [])) (rg ms ts))))
theorem hone3 {x y z : HV} (hx : hone x = true) (hy : hone y = true) (hz : hone z = true) : ∀ w ∈ [x, y, z], hone w = true := by
  intro w hw
  simp at hw
  rcases hw with rfl | rfl | rfl <;> assumption
theorem parts_ok {tl : List Top} (h : tl.any badT = false) : ∀ t ∈ tl, 0 ≤ t.parts ∧ t.parts ≤ 1000 := fun t ht => by
  have := List.any_eq_false.1 h t ht
  simp [badT] at this
  omega
theorem sharesP_one {b u : HS} {SH : HV} {D : DD} (h : SharesP b u SH D) : hone SH = true ∧ hcells SH = some [SH] := by
  rcases h with ⟨-, rfl⟩ | ⟨q, f, L, -, rfl, -⟩ <;> exact ⟨rfl, rfl⟩
theorem quo_i {a n : Nat} (hn : 0 < n) (ha : a < 9223372036854775808) : vBin .quo (.lit (.int .i64 (a : Int))) (.lit (.int .i64 (n : Int))) = some (.lit (.int .i64 ((a / n : Nat) : Int))) := by
  have h0 : ¬ (n : Int) = 0 := by omega
  have h1 : a / n ≤ a := Nat.div_le_self a n
  have h2 : (a : Int).tdiv (n : Int) = ((a / n : Nat) : Int) := (Int.ofNat_tdiv a n).symm
  simp only [vBin, if_true, if_neg h0]
  rw [h2]
  generalize a / n = c at h1 ⊢
  rw [w64 (by omega) (by omega)]
theorem rem_i {a n : Nat} (hn : 0 < n) : vBin .rem (.lit (.int .i64 (a : Int))) (.lit (.int .i64 (n : Int))) = some (.lit (.int .i64 ((a % n : Nat) : Int))) := by
  have h0 : ¬ (n : Int) = 0 := by omega
  have h2 : (a : Int).tmod (n : Int) = ((a % n : Nat) : Int) := (Int.ofNat_tmod a n).symm
  simp only [vBin, if_true, if_neg h0, h2]
theorem range13 {s : HS} {A B : HV} {l : List Mem} {tl : List Top} (hA : RowV s 2 A l.length (rows memC l)) (hB : RowV s 2 B tl.length (rows topC tl)) (hl : l.length ≤ 1000000) (htl : tl.length ≤ 1000000) (htp : ∀ m ∈ l, (m.tp.getD []).length ≤ 1000000000) :
    HC Tryd.prog 53 [A, B] s (fun v u => postRange rangeA l tl s v u) := by
  refine HC53 ?_
  unfold c53
  refine (open27 hA hB hl htl).mono ?_
  rintro v s2 ⟨hle, hpost⟩
  rcases hpost with ⟨hbad, x, y, z, rfl, ox, oy, oz⟩ | ⟨hok, ms, ts, A1, A2, SH, b, pm, pt, sm, st, rfl, o1, o2, hc2, hsb, hbu, r1, r2, hsh⟩
  · simp only [vExtract, List.getElem?_cons_zero, List.getElem?_cons_succ, bindO]
    refine new_store rfl rfl (hone3 ox oy oz) fun p hp => ?_
    simp only [vUn, Bool.not_false, hcond]
    exact ⟨le_set_new _ hle hp, .inl ⟨hbad, rfl⟩⟩
  · have hshP := sharesP_start hsh
    have hmlen : ms.length = l.length := pm.length_eq
    have htlen : ts.length = tl.length := pt.length_eq
    have hparts : ∀ t ∈ ts, 0 ≤ t.parts ∧ t.parts ≤ 1000 := fun t ht => parts_ok hok.1 t (pt.mem_iff.1 ht)
    simp only [vExtract, List.getElem?_cons_zero, List.getElem?_cons_succ, bindO]
    refine new_store rfl rfl (hone3 o1 o2 (sharesP_one hshP).1) fun p hp => ?_
    have hP0 := (hshP.grow hp (.cells [A1, A2, SH])).le (le_set_new (.cells [A1, A2, SH]) (le_refl' s2) hp)
    have hbb : HS.le b (b.set p (.cells [A1, A2, SH])) := le_set_new _ (le_refl' b) (none_of_le hbu hp)
    have hbu0 : HS.le (b.set p (.cells [A1, A2, SH])) (s2.set p (.cells [A1, A2, SH])) := le_set_both (le_set_new _ hbu hp) (set_at _ _ _)
    have hp0 := set_at b p (.cells [A1, A2, SH])
    obtain ⟨bb, hbbe⟩ : ∃ bb, b.set p (.cells [A1, A2, SH]) = bb := ⟨_, rfl⟩
    rw [hbbe] at hP0 hbb hbu0 hp0
    generalize s2.set p (.cells [A1, A2, SH]) = u0 at *
    have r1' := r1.le hbb
    have r2' := r2.le hbb
    have hsbb := HS.le.trans hsb hbb
    clear hbbe hshP hsh hbu hp hle r1 r2
    have ldp : ∀ u, HS.le bb u → ∀ j, vLoad u (.ptr p (0 + j)) 1 false = [A1, A2, SH][j]? := fun u hu j => by rw [Nat.zero_add]; exact load_cell j 1 (hu _ _ hp0)
    simp only [vUn, Bool.not_true, hcond, vField, ldp u0 hbu0 1, List.getElem?_cons_zero, List.getElem?_cons_succ]
    rw [show vLenT (Tryd.prog.underlying 29) u0 A2 = some (.lit (.int .i64 (ts.length : Int))) from r2'.len _ _]
    simp only
    refine HLoop.ghost (σ := Nat) (fun i => [.lit (.int .i64 (i : Int))]) (fun i u => i ≤ ts.length ∧ HS.le bb u ∧ SharesP bb u SH (giveA (ms.map fun m => (m.id, [])) (rangeA ms (ts.take i)))) (fun i => ts.length - i) 0 rfl ⟨Nat.zero_le _, hbu0, by rw [List.take_zero]; exact hP0⟩ ?_
    rintro i u K ⟨hi, hu, hPu⟩ hK
    simp only [List.headD_cons, lss_i]
    by_cases hlt : i < ts.length
    · obtain ⟨qt, x1, y1⟩ := r2'.at_ topC_len t0 hlt
      simp only [hlt, decide_true, x1, (y1 u hu).1]
      have htake := rangeA_take ms ts hlt
      have hrl := rangeA_len ms (ts.take i) fun t ht => (hparts t (List.mem_of_mem_take ht)).2
      rw [List.length_take, Nat.min_eq_left hi] at hrl
      obtain ⟨tp0, tp1⟩ := hparts (ts.getD i t0) (by rw [getD_get _ _ hlt]; exact List.getElem_mem hlt)
      generalize ts.getD i t0 = T at *
      obtain ⟨nm, pz⟩ := T
      obtain ⟨np, rfl⟩ : ∃ np : Nat, pz = (np : Int) := ⟨pz.toNat, by simp only at tp0; omega⟩
      simp only [Int.toNat_natCast] at htake
      simp only at tp1
      refine new_store rfl rfl (topC_one _) fun X hX => ?_
      have hPX := (hPu.grow hX (.cells (topC ⟨nm, np⟩))).le (le_set_new (.cells (topC ⟨nm, np⟩)) (le_refl' u) hX)
      have hXb : HS.le bb (bb.set X (.cells (topC ⟨nm, np⟩))) := le_set_new _ (le_refl' bb) (none_of_le hu hX)
      have huX : HS.le (bb.set X (.cells (topC ⟨nm, np⟩))) (u.set X (.cells (topC ⟨nm, np⟩))) := le_set_both (le_set_new _ hu hX) (set_at _ _ _)
      have hX0 := set_at bb X (.cells (topC ⟨nm, np⟩))
      generalize u.set X (.cells (topC ⟨nm, np⟩)) = u1 at *
      generalize bb.set X (.cells (topC ⟨nm, np⟩)) = bX at *
      have ldX : ∀ w, HS.le bX w → ∀ j, vLoad w (.ptr X (0 + j)) 1 false = (topC ⟨nm, np⟩)[j]? := fun w hw j => by rw [Nat.zero_add]; exact load_cell j 1 (hw _ _ hX0)
      have ldp1 : ∀ w, HS.le bX w → ∀ j, vLoad w (.ptr p (0 + j)) 1 false = [A1, A2, SH][j]? := fun w hw j => ldp w (HS.le.trans hXb hw) j
      simp only [ldp1 u1 huX 0, List.getElem?_cons_zero]
      rw [show vLenT (Tryd.prog.underlying 92) u1 A1 = some (.lit (.int .i64 (ms.length : Int))) from r1'.len _ _]
      simp only
      have hfinT : ∀ w, HS.le bX w → SharesP bX w SH (giveA (ms.map fun m => (m.id, [])) (rangeA ms (ts.take (i + 1)))) → K [.lit (.int .i64 ((i + 1 : Nat) : Int))] w := fun w hw hP =>
        hK (i + 1) _ _ rfl ⟨hlt, HS.le.trans hXb hw, hP.base hXb⟩ (by omega)
      refine HLoop.ghost (σ := HV × Nat) (fun g => [g.1, .lit (.int .i64 (g.2 : Int))]) (fun g w => g.2 ≤ ms.length ∧ HS.le u1 w ∧ Acc u1 w 1 g.1 (whoOf ms ⟨nm, np⟩ g.2).length (rows intC (whoOf ms ⟨nm, np⟩ g.2))) (fun g => ms.length - g.2) (nilV, 0) rfl ⟨Nat.zero_le _, le_refl' u1, Acc.nil _ _ _⟩ ?_
      rintro ⟨W, k⟩ w K24 ⟨hk, hw, hW⟩ hK24
      simp only at hk hw hW
      simp only [List.headD_cons, List.tail_cons, lss_i]
      by_cases hkm : k < ms.length
      · obtain ⟨qm, x2, y2⟩ := r1'.at_ memC_len m0 hkm
        have hbw : HS.le bb w := HS.le.trans hXb (HS.le.trans huX hw)
        have hsucc := whoOf_succ ms ⟨nm, np⟩ k
        have hwl := whoOf_len ms ⟨nm, np⟩ k
        have hmt := htp (ms.getD k m0) (pm.mem_iff.1 (by rw [getD_get _ _ hkm]; exact List.getElem_mem hkm))
        simp only [hkm, decide_true, x2, (y2 w hbw).1]
        generalize ms.getD k m0 = m at *
        refine Join.of (fun xs w' => ∃ W', xs = [W'] ∧ HS.le u1 w' ∧ Acc u1 w' 1 W' (whoOf ms ⟨nm, np⟩ (k + 1)).length (rows intC (whoOf ms ⟨nm, np⟩ (k + 1)))) ?_ ?_
        · rintro _ w' ⟨W', rfl, g1, g2⟩
          simp only [List.headD_cons]
          rw [wlit1, add_i (show k + 1 < 9223372036854775808 by omega)]
          exact hK24 (W', k + 1) _ _ rfl ⟨hkm, g1, g2⟩ (by show ms.length - (k + 1) < ms.length - k; omega)
        · intro K28 hK28
          refine new_store rfl rfl (memC_one m) fun Y hY => ?_
          have hWY := hW.new (.cells (memC m)) hY
          have hwY := le_set_new (.cells (memC m)) hw hY
          have hY0 := set_at w Y (.cells (memC m))
          generalize w.set Y (.cells (memC m)) = w1 at *
          have lY : vLoad w1 (.ptr Y (0 + 1)) 1 false = some (rowV strC 1 m.tp) := load_cell 1 1 hY0
          have lX : vLoad w1 (.ptr X (0 + 0)) 1 false = some (strV nm) := ldX w1 (HS.le.trans huX hwY) 0
          simp only [lY, lX]
          refine (contains28 m.tp nm w1 hmt).mono ?_
          rintro v w2 ⟨rfl, rfl⟩
          cases hc : (m.tp.getD []).contains nm with
          | false =>
            simp only
            rw [hc] at hsucc
            simp only [Bool.false_eq_true, if_false, List.append_nil] at hsucc
            exact hK28 _ _ ⟨W, rfl, hwY, by rw [hsucc]; exact hWY⟩
          | true =>
            simp only
            rw [hc] at hsucc
            simp only [if_true] at hsucc
            refine hWY.app1 hwY (vs := intC k) rfl rfl rfl ⟨by omega, by omega⟩ fun W' w3 g1 g2 g3 => ?_
            refine hK28 _ _ ⟨W', rfl, g2, ?_⟩
            rw [hsucc, rows_app, rows_one, List.length_append]
            exact g1
      · obtain rfl : k = ms.length := by omega
        have hwl := whoOf_len ms ⟨nm, np⟩ ms.length
        have hwlt := whoOf_lt ms ⟨nm, np⟩ ms.length
        obtain ⟨who, hwho⟩ : ∃ who, whoOf ms ⟨nm, np⟩ ms.length = who := ⟨_, rfl⟩
        rw [hwho] at hW hwl hwlt htake
        obtain ⟨D0, hD0⟩ : ∃ D0, giveA (ms.map fun m => (m.id, [])) (rangeA ms (ts.take i)) = D0 := ⟨_, rfl⟩
        have hD0l : D0.length = ms.length := by rw [← hD0, giveA_len, List.length_map]
        have hD0s : ∀ j, (D0.getD j d0).2.length ≤ 1000 * i := fun j => by
          have h1 := giveA_sl (rangeA ms (ts.take i)) (ms.map fun m => (m.id, [])) j
          have h2 : (((ms.map fun m => ((m.id, []) : By × List Slot)).getD j d0).2).length = 0 := by
            simp only [List.getD, List.getElem?_map]
            cases ms[j]? <;> rfl
          rw [hD0] at h1
          omega
        rw [hD0] at hPX
        rw [htake, giveA_app, hD0] at hfinT
        have hcx : HS.le bX w := HS.le.trans huX hw
        obtain ⟨bW, hbW1, hbW2, hPW, hWl⟩ : ∃ bW, HS.le bX bW ∧ HS.le bW w ∧ SharesP bW w SH D0 ∧ RowV bW 1 W who.length (rows intC who) := by
          rcases hW with ⟨h1, h2, h3⟩ | ⟨q, f, h1, rfl, h3, h4, h5⟩
          · exact ⟨bX, le_refl' _, hcx, hPX.le hw, .inl ⟨h1, h2, h3⟩⟩
          · exact ⟨bX.set q (.cells (rows intC who)), le_set_new _ (le_refl' _) (none_of_le huX h1), le_set_both hcx h3, (hPX.grow h1 _).le hw, .inr ⟨q, f, rfl, set_at _ _ _, h4⟩⟩
        clear hW hPX
        simp only [hkm, decide_false]
        have hvl : ∀ v, vLenT (Tryd.prog.underlying 98) v W = some (.lit (.int .i64 (who.length : Int))) := fun v => hWl.len _ _
        simp only [hvl]
        refine HLoop.ghost (σ := Nat) (fun k => [.lit (.int .i64 ((cum np who.length k : Nat) : Int)), .lit (.int .i64 (k : Int))]) (fun k v => k ≤ who.length ∧ HS.le bW v ∧ SharesP bW v SH (giveA D0 (asgT nm np who k))) (fun k => who.length - k) 0 rfl ⟨Nat.zero_le _, hbW2, hPW⟩ ?_
        rintro k v K48 ⟨hk1, hv, hPv⟩ hK48
        simp only [List.headD_cons, List.tail_cons, lss_i]
        by_cases hkw : k < who.length
        · have hXv : HS.le bX v := HS.le.trans hbW1 hv
          obtain ⟨qw, x3, y3⟩ := hWl.at_ (enc := intC) (sz := 1) (fun _ => rfl) 0 hkw
          have l53 : vLoad v (.ptr qw (k * 1)) 1 false = some (.lit (.int .i64 ((who.getD k 0 : Nat) : Int))) := by have := (y3 v hv).2 0 (Nat.lt_succ_self 0) 1; rw [Nat.add_zero] at this; exact this
          have lP : ∀ w, HS.le bX w → vLoad w (.ptr X (0 + 1)) 1 false = some (.lit (.int .i64 (np : Int))) := fun w hw => ldX w hw 1
          have lN : ∀ w, HS.le bX w → vLoad w (.ptr X (0 + 0)) 1 false = some (strV nm) := fun w hw => ldX w hw 0
          have hnpb : np ≤ 1000 := by omega
          have hdv : np / who.length ≤ np := Nat.div_le_self _ _
          simp only [hkw, decide_true, x3, l53, lP v hXv, quo_i (show 0 < who.length by omega) (show np < 9223372036854775808 by omega)]
          have hwk : who.getD k 0 < ms.length := hwlt _ (by rw [getD_get _ _ hkw]; exact List.getElem_mem hkw)
          have hcn := cum_le (parts := np) (show k + 1 ≤ who.length from hkw)
          have hcs : cum np who.length (k + 1) = cum np who.length k + cnt np who.length k := rfl
          refine Join.of (fun xs w' => w' = v ∧ xs = [.lit (.int .i64 ((cnt np who.length k : Nat) : Int))]) ?_ ?_
          rotate_left
          · intro K58 hK58
            simp only [rem_i (show 0 < who.length by omega), lss_i]
            by_cases hr : k < np % who.length
            · simp only [hr, decide_true]
              rw [wlit1, add_i (by omega)]
              exact hK58 _ _ ⟨rfl, by rw [cnt, if_pos hr]⟩
            · simp only [hr, decide_false]
              exact hK58 _ _ ⟨rfl, by rw [cnt, if_neg hr]; rfl⟩
          rintro _ w' ⟨rfl, rfl⟩
          simp only [List.headD_cons]
          refine HLoop.ghost (σ := Nat) (fun j => [.lit (.int .i64 ((cum np who.length k + j : Nat) : Int)), .lit (.int .i64 (j : Int))]) (fun j v => j ≤ cnt np who.length k ∧ HS.le bW v ∧ SharesP bW v SH (giveA (giveA D0 (asgT nm np who k)) (asgK nm np who k j))) (fun j => cnt np who.length k - j) 0 rfl ⟨Nat.zero_le _, hv, hPv⟩ ?_
          rintro j v2 K67 ⟨hj, hv2, hP2⟩ hK67
          simp only [List.headD_cons, List.tail_cons, lss_i]
          by_cases hjc : j < cnt np who.length k
          · have hX2 : HS.le bX v2 := HS.le.trans hbW1 hv2
            have lA : vLoad v2 (.ptr p 0) 3 true = some (.agg [A1, A2, SH]) := load_all rfl (HS.le.trans hXb hX2 _ _ hp0)
            simp only [hjc, decide_true, lA, lN v2 hX2]
            rw [show ∀ n : Int, vMk [(0, 1), (1, 1)] [.lit (.string .empty), .lit (.int .i64 0)] [(0, strV nm), (1, .lit (.int .i64 n))] = some (.agg (slC (nm, n))) from fun n => by simp [vMk, hfill, strV, hc_string, hc_int]; rfl]
            simp only
            refine (gives29P hP2 hv2 A1 A2 (i := who.getD k 0) (by rw [giveA_len, giveA_len, hD0l]; exact hwk) _ ?_).mono ?_
            · have h1 := giveA_sl (asgK nm np who k j) (giveA D0 (asgT nm np who k)) (who.getD k 0)
              have h2 := giveA_sl (asgT nm np who k) D0 (who.getD k 0)
              have h3 := hD0s (who.getD k 0)
              rw [asgK_len] at h1
              rw [asgT_len] at h2
              omega
            · rintro v' v3 ⟨hP3, hv3⟩
              rw [wlit1, add_i (by omega), add_i (by omega)]
              refine hK67 (j + 1) _ _ (by show _ = [HV.lit (.int .i64 ((cum np who.length k + (j + 1) : Nat) : Int)), _]; rw [Nat.add_assoc]) ⟨hjc, hv3, ?_⟩ (by omega)
              rw [asgK_succ, giveA_app]
              exact hP3
          · obtain rfl : j = cnt np who.length k := by omega
            simp only [hjc, decide_false]
            rw [wlit1, add_i (by omega)]
            refine hK48 (k + 1) _ _ rfl ⟨hkw, hv2, ?_⟩ (by omega)
            rw [asgT_succ, giveA_app]
            exact hP2
        · obtain rfl : k = who.length := by omega
          simp only [hkw, decide_false]
          rw [wlit1, add_i (show i + 1 < 9223372036854775808 by omega)]
          exact hfinT v (HS.le.trans hbW1 hv) (hPv.base hbW1)
    · obtain rfl : i = ts.length := by omega
      rw [List.take_length] at hPu
      simp only [hlt, decide_false, ldp u hu 2, List.getElem?_cons_zero, List.getElem?_cons_succ]
      exact ⟨HS.le.trans hsbb hu, .inr ⟨hok, ms, ts, SH, pm, pt, sm, st, rfl, hPu.base hsbb⟩⟩
end Go.Proofs.YtkcgokkgefgcjaaDoor.AS
end
section
namespace Go.Proofs.YtkcgokkgefgcjaaDoor.AS
open Go.Proofs.YtkcgokkgefgcjaaDoor.H Go.Proofs.YtkcgokkgefgcjaaDoor.G0 Go.Proofs.YtkcgokkgefgcjaaDoor.G1
set_option linter.unusedVariables false
set_option linter.unusedSimpArgs false
set_option maxRecDepth 100000
theorem acc0_upAtL {b t : HS} {sz : Nat} {A : HV} {n : Nat} {cs : List HV} (h : Acc0 b t sz A n cs) (hb : HS.le b t) (ys zs : List HV) (hy : ∀ q cs, ys.map (frz2 q cs) = ys) (hz : ∀ q cs, zs.map (frz2 q cs) = zs) : UpL (ys ++ A :: zs) t (ys ++ .list sz n cs false :: zs) b := by
  rcases h with h | ⟨rfl, rfl, q, h3, rfl, h4⟩
  · exact h.upAtL hb ys zs hy hz
  · have := UpL.freeze (ys := ys) (zs := zs) (id := q) (off := 0) (sz := sz) (n := 0) (full := true) (full' := false) (fun h => by cases h) h4 (by simp)
    simp only [Nat.zero_mul, List.take_zero] at this
    refine this.trans (UpL.le _ (le_del_free hb h3))
/-- What stands in order, and is the same, is the same row. -/
theorem strict_uniq {α : Type} (nm : α → By) : ∀ (a b : List α), a.Pairwise (fun x y => bl_ (nm x) (nm y) = true) → b.Pairwise (fun x y => bl_ (nm x) (nm y) = true) → (∀ x, x ∈ a ↔ x ∈ b) → a = b
  | [], [], _, _, _ => rfl
  | [], y :: b, _, _, h => by have := (h y).2 List.mem_cons_self; cases this
  | x :: a, [], _, _, h => by have := (h x).1 List.mem_cons_self; cases this
  | x :: a, y :: b, ha, hb, h => by
    have ha' := List.pairwise_cons.1 ha
    have hb' := List.pairwise_cons.1 hb
    have e : x = y := by
      rcases List.mem_cons.1 ((h x).1 List.mem_cons_self) with e | h1
      · exact e
      · rcases List.mem_cons.1 ((h y).2 List.mem_cons_self) with e | h2
        · exact e.symm
        · have h3 := bl_asymm (hb'.1 _ h1)
          rw [ha'.1 _ h2] at h3
          cases h3
    subst e
    congr 1
    refine strict_uniq nm a b ha'.2 hb'.2 fun z => ⟨fun hz => ?_, fun hz => ?_⟩
    · rcases List.mem_cons.1 ((h z).1 (List.mem_cons_of_mem _ hz)) with e | h1
      · have := ha'.1 _ hz
        rw [e, bl_irrefl] at this
        cases this
      · exact h1
    · rcases List.mem_cons.1 ((h z).2 (List.mem_cons_of_mem _ hz)) with e | h1
      · have := hb'.1 _ hz
        rw [e, bl_irrefl] at this
        cases this
      · exact h1
/-- A row in order without two alike, of what another strictly ordered row holds, is that row. -/
theorem sorted_is {α : Type} (nm : α → By) {a b : List α} (hp : a.Perm b) (ha : a.Pairwise fun x y => bl_ (nm y) (nm x) = false) (hb : b.Pairwise fun x y => bl_ (nm x) (nm y) = true) : a = b := by
  refine strict_uniq nm a b ?_ hb fun x => hp.mem_iff
  have hnd : (a.map nm).Nodup := by
    refine (hp.map nm).nodup_iff.2 ?_
    unfold List.Nodup
    rw [List.pairwise_map]
    exact hb.imp fun {x y} h e => by rw [e, bl_irrefl] at h; cases h
  unfold List.Nodup at hnd
  rw [List.pairwise_map] at hnd
  exact (ha.and hnd).imp fun {x y} ⟨h1, h2⟩ => (bl_tri _ _ h1).elim (fun e => absurd e.symm h2) id
theorem cmp39 {s : HS} {rest : List HV} {q : Nat} : CmpOk Tryd.prog (.func (.func 76) []) topC ltT rest s q := by
  intro M x y K hK
  have hp : plainFn Tryd.prog 76 = true := by unfold plainFn; rw [Tryd.func76]; rfl
  generalize Lay topC rest s q M = t at *
  simp only [hcall, hite_eq, hp, if_true, List.append_nil]
  refine HC.weaken (HC76 ?_)
  unfold c76
  refine hbox_intro (hc_agg _) fun i1 h1 => ?_
  have e1 := set_at t i1 (.cells (topC x))
  have hle := le_set_new (.cells (topC x)) (le_refl' t) h1
  generalize t.set i1 (.cells (topC x)) = t1 at *
  refine hbox_intro (hc_agg _) fun i2 h2 => ?_
  have e2 := set_at t1 i2 (.cells (topC y))
  have e3 : (t1.set i2 (.cells (topC y))) i1 = some (.cells (topC x)) := by rw [set_ne _ _ (ne_new e1 h2)]; exact e1
  have hle2 := le_set_new (.cells (topC y)) hle h2
  generalize t1.set i2 (.cells (topC y)) = t2 at *
  have l1 : vLoad t2 (.ptr i1 (0 + 0)) 1 false = some (strV x.name) := load_cell 0 1 e3
  have l2 : vLoad t2 (.ptr i2 (0 + 0)) 1 false = some (strV y.name) := load_cell 0 1 e2
  simp only [vField, bindO, l1, l2]
  refine (cmp40 x.name y.name t2).mono ?_
  rintro v t5 ⟨rfl, n, rfl, hn⟩
  exact ⟨t, hle2, hK n hn⟩
def slotsOf (ts : List Top) : List Slot := ts.flatMap fun t => (List.range t.parts.toNat).map fun j => (t.name, ((j : Nat) : Int))
theorem slotsOf_take (ts : List Top) {i : Nat} (hi : i < ts.length) : slotsOf (ts.take (i + 1)) = slotsOf (ts.take i) ++ (List.range (ts.getD i t0).parts.toNat).map fun j => ((ts.getD i t0).name, ((j : Nat) : Int)) := by
  rw [take_succ' t0 ts hi]; simp [slotsOf]
theorem slotsOf_at (ts : List Top) {i j : Nat} (hi : i < ts.length) (hj : j < (ts.getD i t0).parts.toNat) : (slotsOf (ts.take i)).length + j < (slotsOf ts).length ∧ (slotsOf ts).getD ((slotsOf (ts.take i)).length + j) ([], 0) = ((ts.getD i t0).name, (j : Int)) := by
  have h1 : slotsOf ts = slotsOf (ts.take i) ++ (((List.range (ts.getD i t0).parts.toNat).map fun j => ((ts.getD i t0).name, ((j : Nat) : Int))) ++ slotsOf (ts.drop (i + 1))) := by
    rw [← List.append_assoc, ← slotsOf_take ts hi]
    conv => lhs; rw [← List.take_append_drop (i + 1) ts]
    simp only [slotsOf, List.flatMap_append]
  rw [h1]
  refine ⟨by simp only [List.length_append, List.length_map, List.length_range]; omega, ?_⟩
  generalize ts.getD i t0 = T at *
  simp only [List.getD]
  rw [List.getElem?_append_right (by omega), Nat.add_sub_cancel_left, List.getElem?_append_left (by simpa using hj), List.getElem?_map, List.getElem?_range hj]
  rfl
theorem gives36 {s : HS} {p : Nat} {B : HV} {tl ts : List Top} (hp : s p = some (.cells [B])) (hB : RowV s 2 B tl.length (rows topC tl)) (hl : tl.length ≤ 1000000) (pm : ts.Perm tl) (st : ts.Pairwise fun x y => ltT x y = true) (hpa : ∀ t ∈ ts, t.parts ≤ 1000000000) :
    GivesL Tryd.prog 74 [.ptr p 0] (slotsOf ts).length (fun i => [.agg (slC ((slotsOf ts).getD i ([], 0)))]) s := by
  intro idl J E s' hle hJ hJs hround h0
  refine G1.HC74 ?_
  unfold G1.c74
  rw [show vLoad s' (.ptr p 0) 1 false = some B from load_cell 0 1 (hle _ _ hp)]
  simp only [bindO]
  refine (clone37 (hB.le hle) (by omega)).mono ?_
  rintro A1 s2 ⟨hA1, hle2⟩
  refine (sortRow38 hA1 hle2 (fun q hq => cmp39) (by omega)).mono ?_
  rintro v s3 ⟨l', hpm, hso, hA', hle3⟩
  obtain rfl : l' = ts := sorted_is Top.name (hpm.trans pm.symm) hso st
  have hn : l'.length ≤ 1000000 := by rw [pm.length_eq]; exact hl
  rw [show vLenT (Tryd.prog.underlying 29) s3 A1 = some (.lit (.int .i64 (l'.length : Int))) from (acc0_row hA').len _ _]
  refine JoinU.of (fun xs t => xs = [rowL topC 2 l', .lit (.int .i64 (l'.length : Int)), .lit (.int .i64 0)] ∧ t = s') ?_ ?_
  rotate_left
  · intro K hK
    exact hK _ _ _ _ (acc0_upAtL hA' hle3 [] [.lit (.int .i64 (l'.length : Int)), .lit (.int .i64 0)] (fun _ _ => rfl) (fun _ _ => rfl)) ⟨rfl, rfl⟩
  rintro _ t ⟨rfl, rfl⟩
  simp only [List.headD_cons, List.tail_cons]
  refine HLoop.ghost (σ := Nat) (fun i => [.lit (.int .i64 (i : Int))]) (fun i t => i ≤ l'.length ∧ J (slotsOf (l'.take i)).length t) (fun i => l'.length - i) 0 rfl ⟨Nat.zero_le _, h0⟩ ?_
  rintro i t K ⟨hi, hj⟩ hK
  simp only [List.headD_cons, lss_i]
  by_cases hlt : i < l'.length
  · have hix := idx_rowL (enc := topC) (sz := 2) topC_len t0 l' .i64 hlt
    have htk := slotsOf_take l' hlt
    have hat := fun j => slotsOf_at l' (j := j) hlt
    have hpt := hpa (l'.getD i t0) (by rw [getD_get _ _ hlt]; exact List.getElem_mem hlt)
    simp only [hlt, decide_true, hcond, hix]
    generalize l'.getD i t0 = T at *
    rw [show ∀ u : HS, vLoad u (.elt (topC T) 0) 2 true = some (.agg (topC T)) from fun _ => rfl]
    simp only
    refine JoinU.of (fun xs u => xs = [.elt (topC T) 0] ∧ u = t) ?_ ?_
    rotate_left
    · intro K14 hK14
      refine new_store rfl rfl (topC_one T) fun X hX => ?_
      exact hK14 _ _ _ _ (UpL.frzP (set_at t X _) (le_set_new _ (le_refl' t) hX) hX [] []) ⟨rfl, rfl⟩
    rintro _ u ⟨rfl, rfl⟩
    obtain ⟨nm, pz⟩ := T
    have lN : ∀ w : HS, vLoad w (.elt (topC ⟨nm, pz⟩) (0 + 0)) 1 false = some (strV nm) := fun w => rfl
    have lP : ∀ w : HS, vLoad w (.elt (topC ⟨nm, pz⟩) (0 + 1)) 1 false = some (.lit (.int .i64 pz)) := fun w => rfl
    have hmx : hfold vMax2 (.lit (.int .i64 pz)) [.lit (.int .i64 0)] = some (.lit (.int .i64 ((pz.toNat : Nat) : Int))) := by
      simp only [hfold, vMax2, Option.bind_some]
      congr 3
      split <;> omega
    simp only [List.headD_cons, vField, lP, hmx]
    simp only at hat htk hpt
    refine HLoop.ghost (σ := Nat) (fun j => [.lit (.int .i64 (j : Int))]) (fun j t => j ≤ pz.toNat ∧ J ((slotsOf (l'.take i)).length + j) t) (fun j => pz.toNat - j) 0 rfl ⟨Nat.zero_le _, hj⟩ ?_
    rintro j v K25 ⟨hj1, hj2⟩ hK25
    simp only [List.headD_cons, lss_i]
    by_cases hjp : j < pz.toNat
    · obtain ⟨a1, a2⟩ := hat j hjp
      simp only [hjp, decide_true, lN]
      rw [show ∀ n : Int, vMk [(0, 1), (1, 1)] [.lit (.string .empty), .lit (.int .i64 0)] [(0, strV nm), (1, .lit (.int .i64 n))] = some (.agg (slC (nm, n))) from fun n => by simp [vMk, hfill, strV, hc_string, hc_int]; rfl]
      simp only [hcall]
      rw [← a2]
      refine hround _ _ _ a1 hj2 (fun t' h' => ?_) (fun t' h' => ?_)
      · simp only [vUn, Bool.not_true]
        rw [wlit1, add_i (show j + 1 < 9223372036854775808 by omega)]
        exact hK25 (j + 1) _ _ rfl ⟨hjp, h'⟩ (by omega)
      · simp only [vUn, Bool.not_false]
        exact .inr h'
    · obtain rfl : j = pz.toNat := by omega
      simp only [hjp, decide_false]
      rw [wlit1, add_i (show i + 1 < 9223372036854775808 by omega)]
      refine hK (i + 1) _ _ rfl ⟨hlt, ?_⟩ (by show l'.length - (i + 1) < l'.length - i; omega)
      rw [htk, List.length_append, List.length_map, List.length_range]
      exact hj2
  · obtain rfl : i = l'.length := by omega
    simp only [hlt, decide_false, hcond]
    rw [List.take_length] at hj
    exact .inl hj
end Go.Proofs.YtkcgokkgefgcjaaDoor.AS
end
section
namespace Go.Proofs.YtkcgokkgefgcjaaDoor.AS
open Go.Proofs.YtkcgokkgefgcjaaDoor.H Go.Proofs.YtkcgokkgefgcjaaDoor.G0 Go.Proofs.YtkcgokkgefgcjaaDoor.G1
set_option linter.unusedVariables false
set_option linter.unusedSimpArgs false
set_option maxRecDepth 100000
def hasT (ms : List Mem) (nm : By) (i : Nat) : Bool := ((ms.getD i m0).tp.getD []).contains nm
/-- Who is next in the ring, of those that read a topic. -/
def pick (ms : List Mem) (nm : By) (next : Nat) : Option Nat := ((List.range ms.length).map fun k => (next + k) % ms.length).find? (hasT ms nm)
def roundStep (ms : List Mem) (g : Nat × List (Nat × Slot)) (x : Slot) : Nat × List (Nat × Slot) := match pick ms x.1 g.1 with
  | some i => (i + 1, g.2 ++ [(i, x)])
  | none => g
/-- What Round gives. -/
def roundG (ms : List Mem) (xs : List Slot) : Nat × List (Nat × Slot) := xs.foldl (roundStep ms) (0, [])
def roundA (ms : List Mem) (ts : List Top) : List (Nat × Slot) := (roundG ms (slotsOf ts)).2
theorem roundG_take (ms : List Mem) (xs : List Slot) {i : Nat} (hi : i < xs.length) : roundG ms (xs.take (i + 1)) = roundStep ms (roundG ms (xs.take i)) (xs.getD i ([], 0)) := by
  rw [take_succ' ([], 0) xs hi]
  simp [roundG]
theorem pick_lt {ms : List Mem} {nm : By} {next i : Nat} (h : pick ms nm next = some i) : i < ms.length ∧ hasT ms nm i = true := by
  have h1 := List.mem_of_find?_eq_some h
  have h2 := List.find?_some h
  obtain ⟨k, hk, rfl⟩ := List.mem_map.1 h1
  have hk' : k < ms.length := by simpa using hk
  exact ⟨Nat.mod_lt _ (by omega), h2⟩
theorem roundG_le (ms : List Mem) : ∀ (xs : List Slot) (g : Nat × List (Nat × Slot)), g.1 ≤ ms.length → (xs.foldl (roundStep ms) g).1 ≤ ms.length ∧ (xs.foldl (roundStep ms) g).2.length ≤ g.2.length + xs.length
  | [], g, h => ⟨h, Nat.le_refl _⟩
  | x :: xs, g, h => by
    rw [List.foldl_cons, List.length_cons]
    have hs : (roundStep ms g x).1 ≤ ms.length ∧ (roundStep ms g x).2.length ≤ g.2.length + 1 := by
      unfold roundStep
      split
      · rename_i i hi
        have := (pick_lt hi).1
        exact ⟨by show i + 1 ≤ _; omega, by simp⟩
      · exact ⟨h, Nat.le_succ _⟩
    have := roundG_le ms xs _ hs.1
    exact ⟨this.1, by omega⟩
theorem slots25 (a : HV) (s : HS) (ha : hcells a = some [a]) : HC Tryd.prog 61 [a] s (fun v t => ∃ p, s p = none ∧ v = .func (.func 74) [.ptr p 0] ∧ t = s.set p (.cells [a])) := by
  refine HC61 ?_
  unfold c61
  exact hbox_intro ha fun id hid => ⟨id, hid, rfl, rfl⟩
theorem plain36 : plainFn Tryd.prog 74 = true := by unfold plainFn; rw [Tryd.func74]; rfl
/-- What lies still elsewhere may be written, as far as shares go. -/
theorem SharesP.put {b u : HS} {SH : HV} {D : DD} (h : SharesP b u SH D) {k : Nat} (hk : b k ≠ none) (ob : HObj) : SharesP b (u.set k ob) SH D := by
  rcases h with h | ⟨q, f, L, h1, h2, h3⟩
  · exact .inl h
  · have hq : q ≠ k := by rintro rfl; exact hk h3.free
    refine .inr ⟨q, f, L, h1, h2, ⟨h3.free, by rw [set_ne _ _ hq]; exact h3.at_, fun x hx => (h3.acc x hx).put _ fun e => hk ((h3.acc x hx).free e).1, h3.apart, h3.self⟩⟩
/-- A round's token is no share. -/
theorem SharesP.near {b u v : HS} {SH : HV} {D : DD} {idl : Nat} (h : SharesP b u SH D) (hn : Near idl u v) : SharesP b v SH D := by
  rcases h with h | ⟨q, f, L, h1, h2, h3⟩
  · exact .inl h
  · exact .inr ⟨q, f, L, h1, h2, ⟨h3.free, hn.cells h3.at_, fun x hx => hn.acc (h3.acc x hx), h3.apart, h3.self⟩⟩
end Go.Proofs.YtkcgokkgefgcjaaDoor.AS
end
section
namespace Go.Proofs.YtkcgokkgefgcjaaDoor.AS
open Go.Proofs.YtkcgokkgefgcjaaDoor.H Go.Proofs.YtkcgokkgefgcjaaDoor.G0 Go.Proofs.YtkcgokkgefgcjaaDoor.G1
set_option linter.unusedVariables false
set_option linter.unusedSimpArgs false
set_option maxRecDepth 100000
theorem new_store1 {s : HS} {z v : HV} {K : HV → HS → Prop} (hv : hcells v = some [v]) (ho : hone v = true) (h : ∀ q, s q = none → K (.ptr q 0) (s.set q (.cells [v]))) :
    hNew s (.cells [z]) (fun id => .ptr id 0) (fun x t => hStore t x v 1 (fun t' => K x t')) := by
  intro q hq
  have e : (s.set q (.cells [z])).set q (.cells [v]) = s.set q (.cells [v]) := by funext k; simp only [HS.set]; split <;> rfl
  unfold hStore
  simp only [hv, set_at]
  refine ⟨rfl, by simp, by simp [ho], ?_⟩
  rw [show putCells [z] 0 [v] = [v] from rfl, e]
  exact h q hq
theorem pick_some {ms : List Mem} {nm : By} {next k : Nat} (hk : k < ms.length) (h : ∀ j, j < k → hasT ms nm ((next + j) % ms.length) = false) (ht : hasT ms nm ((next + k) % ms.length) = true) : pick ms nm next = some ((next + k) % ms.length) := by
  unfold pick
  have e : List.range ms.length = List.range k ++ (k :: (List.range (ms.length - k - 1)).map fun x => k + 1 + x) := by
    conv => lhs; rw [show ms.length = k + (1 + (ms.length - k - 1)) by omega, List.range_add, List.range_add]
    simp [List.range_succ, Nat.add_assoc]
  rw [e, List.map_append, List.map_cons, List.find?_append]
  rw [List.find?_eq_none.2]
  · simp [ht]
  · intro x hx
    obtain ⟨j, hj, rfl⟩ := List.mem_map.1 hx
    rw [h j (by simpa using hj)]
    simp
theorem pick_no {ms : List Mem} {nm : By} {next : Nat} (h : ∀ j, j < ms.length → hasT ms nm ((next + j) % ms.length) = false) : pick ms nm next = none := by
  unfold pick
  rw [List.find?_eq_none]
  intro x hx
  obtain ⟨j, hj, rfl⟩ := List.mem_map.1 hx
  rw [h j (by simpa using hj)]
  simp
/-- What lies still may be told otherwise, as far as shares go. -/
theorem SharesP.rebase {b b' u : HS} {SH : HV} {D : DD} (h : SharesP b u SH D) (hb : ∀ k, b k = none → b' k = none) : SharesP b' u SH D := by
  rcases h with h | ⟨q, f, L, h1, h2, h3⟩
  · exact .inl h
  · refine .inr ⟨q, f, L, h1, h2, ⟨hb _ h3.free, h3.at_, fun x hx => ?_, h3.apart, h3.self⟩⟩
    rcases h3.acc x hx with h | ⟨r, g, e1, e2, e3, e4, e5⟩
    · exact .inl h
    · exact .inr ⟨r, g, hb _ e1, e2, e3, e4, e5⟩
/-- A round's token may be counted to what lies still. -/
theorem SharesP.tokG {b u : HS} {SH : HV} {D : DD} {idl : Nat} {R0 : HObj} (h : SharesP b u SH D) (ht : u idl = some R0) (tk : IsTok R0) (R1 : HObj) : SharesP (b.set idl R1) (u.set idl R1) SH D := by
  have hc : ∀ j cs, u j = some (.cells cs) → j ≠ idl := fun j cs hj e => by rw [e, ht] at hj; cases hj; exact tk
  rcases h with h | ⟨q, f, L, h1, h2, h3⟩
  · exact .inl h
  · refine .inr ⟨q, f, L, h1, h2, ⟨by rw [set_ne _ _ (hc _ _ h3.at_)]; exact h3.free, by rw [set_ne _ _ (hc _ _ h3.at_)]; exact h3.at_, fun x hx => ?_, h3.apart, h3.self⟩⟩
    rcases h3.acc x hx with h | ⟨r, g, e1, e2, e3, e4, e5⟩
    · exact .inl h
    · exact .inr ⟨r, g, by rw [set_ne _ _ (hc _ _ e3)]; exact e1, e2, by rw [set_ne _ _ (hc _ _ e3)]; exact e3, e4, e5⟩
theorem slots_len : ∀ (ts : List Top), (∀ t ∈ ts, t.parts ≤ 1000) → (slotsOf ts).length ≤ 1000 * ts.length
  | [], _ => by simp [slotsOf]
  | t :: ts, h => by
    have h1 := slots_len ts fun x hx => h x (List.mem_cons_of_mem _ hx)
    have h2 := h t List.mem_cons_self
    have h3 : (slotsOf (t :: ts)).length = t.parts.toNat + (slotsOf ts).length := by simp [slotsOf]
    rw [h3, List.length_cons]
    omega
theorem slC_one (x : Slot) : ∀ y ∈ slC x, hone y = true := by
  intro y hy
  simp only [slC, List.mem_cons, List.not_mem_nil, or_false] at hy
  rcases hy with rfl | rfl <;> rfl
theorem le_set_val {b u : HS} {k : Nat} {ob ob' : HObj} (h : HS.le (b.set k ob) u) : HS.le (b.set k ob') (u.set k ob') := by
  intro j o hj
  by_cases e : j = k
  · subst e; rw [set_at] at hj ⊢; exact hj
  · rw [set_ne _ _ e] at hj ⊢
    exact h j o (by rw [set_ne _ _ e]; exact hj)
theorem round10 {s : HS} {A B : HV} {l : List Mem} {tl : List Top} (hA : RowV s 2 A l.length (rows memC l)) (hB : RowV s 2 B tl.length (rows topC tl)) (hl : l.length ≤ 1000000) (htl : tl.length ≤ 1000000) (htp : ∀ m ∈ l, (m.tp.getD []).length ≤ 1000000000) :
    HC Tryd.prog 52 [A, B] s (fun v u => postRange roundA l tl s v u) := by
  refine HC52 ?_
  unfold c52
  refine (open27 hA hB hl htl).mono ?_
  rintro v s2 ⟨hle, hpost⟩
  rcases hpost with ⟨hbad, x, y, z, rfl, ox, oy, oz⟩ | ⟨hok, ms, ts, A1, A2, SH, b, pm, pt, sm, st, rfl, o1, o2, hc2, hsb, hbu, r1, r2, hsh⟩
  · simp only [vExtract, List.getElem?_cons_zero, List.getElem?_cons_succ, bindO]
    refine new_store rfl rfl (hone3 ox oy oz) fun p hp => ?_
    simp only [vUn, Bool.not_false, hcond]
    exact ⟨le_set_new _ hle hp, .inl ⟨hbad, rfl⟩⟩
  · have hshP := sharesP_start hsh
    have hmlen : ms.length = l.length := pm.length_eq
    have htlen : ts.length = tl.length := pt.length_eq
    have hparts : ∀ t ∈ ts, 0 ≤ t.parts ∧ t.parts ≤ 1000 := fun t ht => parts_ok hok.1 t (pt.mem_iff.1 ht)
    simp only [vExtract, List.getElem?_cons_zero, List.getElem?_cons_succ, bindO]
    refine new_store rfl rfl (hone3 o1 o2 (sharesP_one hshP).1) fun p hp => ?_
    have hP0 := (hshP.grow hp (.cells [A1, A2, SH])).le (le_set_new (.cells [A1, A2, SH]) (le_refl' s2) hp)
    have hbb : HS.le b (b.set p (.cells [A1, A2, SH])) := le_set_new _ (le_refl' b) (none_of_le hbu hp)
    have hbu0 : HS.le (b.set p (.cells [A1, A2, SH])) (s2.set p (.cells [A1, A2, SH])) := le_set_both (le_set_new _ hbu hp) (set_at _ _ _)
    have hp0 := set_at b p (.cells [A1, A2, SH])
    obtain ⟨bb, hbbe⟩ : ∃ bb, b.set p (.cells [A1, A2, SH]) = bb := ⟨_, rfl⟩
    rw [hbbe] at hP0 hbb hbu0 hp0
    generalize s2.set p (.cells [A1, A2, SH]) = u0 at *
    have r1' := r1.le hbb
    have r2' := r2.le hbb
    have hsbb := HS.le.trans hsb hbb
    clear hbbe hshP hsh hbu hp hle r1 r2
    simp only [vUn, Bool.not_true, hcond]
    refine new_store1 (hc_int _ _) (ho_int _ _) fun px hpx => ?_
    have bpx : bb px = none := none_of_le hbu0 hpx
    have hP1 := (hP0.grow hpx (.cells [.lit (.int .i64 0)])).le (le_set_new (.cells [.lit (.int .i64 0)]) (le_refl' u0) hpx)
    have hu1 : HS.le bb (u0.set px (.cells [.lit (.int .i64 0)])) := le_set_new _ hbu0 hpx
    have hbx : HS.le (bb.set px (.cells [.lit (.int .i64 0)])) (u0.set px (.cells [.lit (.int .i64 0)])) := le_set_both hu1 (set_at _ _ _)
    have ex1 := set_at u0 px (.cells [.lit (.int .i64 0)])
    generalize u0.set px (.cells [.lit (.int .i64 0)]) = u1 at *
    have ldp : ∀ u, HS.le bb u → ∀ j, vLoad u (.ptr p (0 + j)) 1 false = [A1, A2, SH][j]? := fun u hu j => by rw [Nat.zero_add]; exact load_cell j 1 (hu _ _ hp0)
    refine Join.of (fun _ u => HS.le bb u ∧ SharesP bb u SH (giveA (ms.map fun m => (m.id, [])) (roundA ms ts))) ?_ ?_
    · rintro _ u ⟨hu, hP⟩
      simp only [vField, ldp u hu 2, List.getElem?_cons_zero, List.getElem?_cons_succ]
      exact ⟨HS.le.trans hsbb hu, .inr ⟨hok, ms, ts, SH, pm, pt, sm, st, rfl, hP.base hsbb⟩⟩
    · intro K hK
      simp only [vField, ldp u1 hu1 1, List.getElem?_cons_zero, List.getElem?_cons_succ]
      refine (slots25 A2 u1 hc2).mono ?_
      rintro v u2 ⟨pb, hpb, rfl, rfl⟩
      have hPb := (hP1.grow hpb (.cells [A2])).le (le_set_new (.cells [A2]) (le_refl' u1) hpb)
      have nxb : px ≠ pb := ne_new ex1 hpb
      have hBle : HS.le bb (bb.set pb (.cells [A2])) := le_set_new _ (le_refl' bb) (none_of_le hu1 hpb)
      have hu2 : HS.le (bb.set pb (.cells [A2])) (u1.set pb (.cells [A2])) := le_set_both (le_set_new _ hu1 hpb) (set_at _ _ _)
      have hux : HS.le ((bb.set pb (.cells [A2])).set px (.cells [.lit (.int .i64 ((0 : Nat) : Int))])) (u1.set pb (.cells [A2])) := le_set_both hu2 (by rw [set_ne _ _ nxb]; exact ex1)
      have hPc : SharesP ((bb.set pb (.cells [A2])).set px (.cells [.lit (.int .i64 ((0 : Nat) : Int))])) (u1.set pb (.cells [A2])) SH (ms.map fun m => (m.id, [])) := by
        rw [set_comm bb (.cells [A2]) _ (Ne.symm nxb)]; exact hPb
      have bpx2 : (bb.set pb (.cells [A2])) px = none := by rw [set_ne _ _ nxb]; exact bpx
      have hpb0 := set_at bb pb (.cells [A2])
      generalize u1.set pb (.cells [A2]) = u2 at *
      obtain ⟨bc, hbc⟩ : ∃ bc, bb.set pb (.cells [A2]) = bc := ⟨_, rfl⟩
      rw [hbc] at hBle hu2 bpx2 hpb0 hux hPc
      clear hbc hPb hP1 hbx
      have hit := gives36 hpb0 (r2'.le hBle) (by omega) (List.Perm.refl ts) st (fun t ht => by have := (hparts t ht).2; omega)
      obtain ⟨xs, hxs⟩ : ∃ xs, slotsOf ts = xs := ⟨_, rfl⟩
      have hxl : xs.length ≤ 1000 * ts.length := by
        rw [← hxs]
        exact slots_len ts fun t ht => (hparts t ht).2
      have hRA : roundA ms ts = (roundG ms xs).2 := by rw [← hxs]; rfl
      rw [hxs] at hit
      rw [hRA] at hK
      have hleS : ∀ v : HObj, HS.le bc (bc.set px v) := fun v => le_set_new _ (le_refl' bc) bpx2
      refine HRange.seqL plain36 hu2 hit (fun i _ => rfl) (fun i u => HS.le (bc.set px (.cells [.lit (.int .i64 (((roundG ms (xs.take i)).1 : Nat) : Int))])) u ∧ SharesP (bc.set px (.cells [.lit (.int .i64 (((roundG ms (xs.take i)).1 : Nat) : Int))])) u SH (giveA (ms.map fun m => (m.id, [])) (roundG ms (xs.take i)).2)) (fun _ => False) (fun _ _ => False)
        (fun i u h => HS.le.trans (hleS _) h.1) ?_ (fun _ _ _ _ _ h => h) (fun _ _ _ _ _ _ h => h) ⟨hux, by rw [List.take_zero]; exact hPc⟩ ?_ (fun _ h => h.elim) (fun _ _ h => h.elim) ?_
      · rintro idl i u u' hi hn ⟨g1, g2⟩
        refine ⟨hn.le g1 ?_, g2.near hn⟩
        rw [set_ne _ _ (by rintro rfl; have := hux _ _ (set_at _ _ _); rw [hi] at this; cases this)]
        exact none_of_le hu2 hi
      · rintro u ⟨g1, g2⟩
        rw [List.take_length] at g2
        exact hK _ _ ⟨HS.le.trans hBle (HS.le.trans (hleS _) g1), (g2.base (hleS _)).base hBle⟩
      · rintro i u idl R0 R1 K' hi hid ht ⟨g1, g2⟩ kn kr kx tk0 tk1
        have htk := roundG_take ms xs hi
        obtain ⟨hnx, hal⟩ := roundG_le ms (xs.take i) (0, []) (Nat.zero_le _)
        change (roundG ms (xs.take i)).1 ≤ _ at hnx
        change (roundG ms (xs.take i)).2.length ≤ _ at hal
        rw [List.length_take] at hal
        generalize xs.getD i ([], 0) = x at *
        simp only [htk] at kn
        generalize roundG ms (xs.take i) = G at *
        obtain ⟨next, asg⟩ := G
        simp only [List.length_nil] at g1 g2 hnx hal
        have npx : px ≠ idl := by rintro rfl; have := g1 _ _ (set_at _ _ _); rw [this] at ht; cases ht; exact tk0
        have hidn : (bc.set px (.cells [.lit (.int .i64 (next : Int))])) idl = none := by rw [set_ne _ _ (Ne.symm npx)]; exact none_of_le hu2 hid
        simp only [List.headD_cons]
        refine new_store rfl rfl (slC_one x) fun X hX => ?_
        have hXi : idl ≠ X := ne_new ht hX
        have hP3 := ((g2.grow hX (.cells (slC x))).le (le_set_new (.cells (slC x)) (le_refl' u) hX)).tokG (by rw [set_ne _ _ hXi]; exact ht) tk0 R1
        have hb3 : HS.le (((bc.set px (.cells [.lit (.int .i64 (next : Int))])).set X (.cells (slC x))).set idl R1) ((u.set X (.cells (slC x))).set idl R1) := by
          refine le_set_both (le_set_free _ (le_set_both (le_set_new _ g1 hX) (set_at _ _ _)) ?_) (set_at _ _ _)
          rw [set_ne _ _ hXi]; exact hidn
        refine ⟨by rw [set_ne _ _ hXi]; exact ht, ?_⟩
        have bX : (bc.set px (.cells [.lit (.int .i64 (next : Int))])) X = none := none_of_le g1 hX
        have npX : px ≠ X := by rintro rfl; rw [set_at] at bX; cases bX
        generalize (u.set X (.cells (slC x))).set idl R1 = u3 at *
        obtain ⟨B3, hB3⟩ : ∃ B3, ((bc.set px (.cells [.lit (.int .i64 (next : Int))])).set X (.cells (slC x))).set idl R1 = B3 := ⟨_, rfl⟩
        have hB3p : B3 px = some (.cells [.lit (.int .i64 (next : Int))]) := by rw [← hB3, set_ne _ _ npx, set_ne _ _ npX, set_at]
        have hX3 : B3 X = some (.cells (slC x)) := by rw [← hB3, set_ne _ _ (Ne.symm hXi), set_at]
        have hB3i : B3 idl = some R1 := by rw [← hB3, set_at]
        have hB3l : HS.le (bc.set px (.cells [.lit (.int .i64 (next : Int))])) B3 := by
          rw [← hB3]
          refine le_set_free _ (le_set_new _ (le_refl' _) bX) hidn
        have hB3b : HS.le bb B3 := HS.le.trans hBle (HS.le.trans (hleS _) hB3l)
        rw [hB3] at hP3 hb3
        have hi3 : u3 idl = some R1 := hb3 _ _ hB3i
        simp only [ldp u3 (HS.le.trans hB3b hb3) 0, List.getElem?_cons_zero]
        rw [show vLenT (Tryd.prog.underlying 92) u3 A1 = some (.lit (.int .i64 (ms.length : Int))) from r1'.len _ _]
        simp only
        refine HLoop.ghost (σ := Nat) (fun k => [.lit (.int .i64 (k : Int))]) (fun k v => k ≤ ms.length ∧ v = u3 ∧ ∀ j, j < k → hasT ms x.1 ((next + j) % ms.length) = false) (fun k => ms.length - k) 0 rfl ⟨Nat.zero_le _, rfl, fun j hj => absurd hj (Nat.not_lt_zero _)⟩ ?_
        rintro k v K30 ⟨hk, rfl, hno⟩ hK30
        simp only [List.headD_cons, lss_i]
        by_cases hkm : k < ms.length
        · have hmod : (next + k) % ms.length < ms.length := Nat.mod_lt _ (by omega)
          have lpx : vLoad v (.ptr px 0) 1 false = some (.lit (.int .i64 (next : Int))) := load_cell 0 1 (hb3 _ _ hB3p)
          obtain ⟨qm, x2, y2⟩ := r1'.at_ memC_len m0 hmod
          have lm := (y2 v (HS.le.trans hB3b hb3)).2 1 (by omega) 1
          have lX : vLoad v (.ptr X (0 + 0)) 1 false = some (strV x.1) := load_cell 0 1 (hb3 _ _ hX3)
          simp only [hkm, decide_true, lpx, add_i (show next + k < 9223372036854775808 by omega), ldp v (HS.le.trans hB3b hb3) 0, List.getElem?_cons_zero]
          rw [show vLenT (Tryd.prog.underlying 92) v A1 = some (.lit (.int .i64 (ms.length : Int))) from r1'.len _ _]
          simp only [rem_i (show 0 < ms.length by omega), x2, lm]
          rw [show (memC (ms.getD ((next + k) % ms.length) m0))[1]? = some (rowV strC 1 (ms.getD ((next + k) % ms.length) m0).tp) from rfl]
          simp only [lX]
          have hmt := htp (ms.getD ((next + k) % ms.length) m0) (pm.mem_iff.1 (by rw [getD_get _ _ hmod]; exact List.getElem_mem hmod))
          refine (contains28 _ x.1 v hmt).mono ?_
          rintro r w ⟨rfl, rfl⟩
          cases hc : ((ms.getD ((next + k) % ms.length) m0).tp.getD []).contains x.1 with
          | false =>
            simp only
            rw [wlit1, add_i (show k + 1 < 9223372036854775808 by omega)]
            refine hK30 (k + 1) _ _ rfl ⟨hkm, rfl, fun j hj => ?_⟩ (by omega)
            rcases Nat.lt_succ_iff_lt_or_eq.1 hj with hj | rfl
            · exact hno j hj
            · exact hc
          | true =>
            have hpk := pick_some hkm hno hc
            have lA : vLoad w (.ptr p 0) 3 true = some (.agg [A1, A2, SH]) := load_all rfl (hb3 _ _ (hB3b _ _ hp0))
            have lS : vLoad w (.ptr X 0) 2 true = some (.agg (slC x)) := load_all rfl (hb3 _ _ hX3)
            simp only [lA, lS]
            have hgl : (giveA (ms.map fun m => ((m.id, []) : By × List Slot)) asg).length = ms.length := by rw [giveA_len, List.length_map]
            refine (gives29P hP3 hb3 A1 A2 (i := (next + k) % ms.length) (by rw [hgl]; exact hmod) x ?_).mono ?_
            · have h1 := giveA_sl asg (ms.map fun m => ((m.id, []) : By × List Slot)) ((next + k) % ms.length)
              have h2 : (((ms.map fun m => ((m.id, []) : By × List Slot)).getD ((next + k) % ms.length) d0).2).length = 0 := by
                simp only [List.getD, List.getElem?_map]
                cases ms[(next + k) % ms.length]? <;> rfl
              omega
            · rintro r' w4 ⟨hP4, hb4⟩
              rw [wlit1, add_i (show (next + k) % ms.length + 1 < 9223372036854775808 by omega)]
              have e4 := hb4 _ _ hB3p
              simp only [hStore, hc_int, e4]
              refine ⟨by trivial, by simp, fun y hy => by rw [List.mem_singleton.1 hy]; rfl, ?_⟩
              rw [show putCells [HV.lit (.int .i64 (next : Int))] 0 [.lit (.int .i64 (((next + k) % ms.length + 1 : Nat) : Int))] = [.lit (.int .i64 (((next + k) % ms.length + 1 : Nat) : Int))] from rfl]
              have hs : roundStep ms (next, asg) x = ((next + k) % ms.length + 1, asg ++ [((next + k) % ms.length, x)]) := by
                unfold roundStep
                simp only [hpk]
              rw [hs] at kn
              refine kn _ ?_ ⟨?_, ?_⟩
              · rw [set_ne _ _ (Ne.symm npx)]
                exact hb4 _ _ hB3i
              · exact le_set_val (HS.le.trans hB3l hb4)
              · have := (hP4.base hB3l).put (k := px) (by rw [set_at]; exact fun h => by cases h) (.cells [.lit (.int .i64 (((next + k) % ms.length + 1 : Nat) : Int))])
                rw [giveA_app]
                refine this.rebase fun j hj => ?_
                have hjp : j ≠ px := by rintro rfl; rw [set_at] at hj; cases hj
                rw [set_ne _ _ hjp] at hj ⊢
                exact hj
        · obtain rfl : k = ms.length := by omega
          simp only [hkm, decide_false]
          have hpk := pick_no hno
          have hs : roundStep ms (next, asg) x = (next, asg) := by
            unfold roundStep
            simp only [hpk]
          rw [hs] at kn
          exact kn _ hi3 ⟨HS.le.trans hB3l hb3, hP3.base hB3l⟩
end Go.Proofs.YtkcgokkgefgcjaaDoor.AS
end
section
namespace Go.Proofs.YtkcgokkgefgcjaaDoor.AS
open Go.Proofs.YtkcgokkgefgcjaaDoor.H Go.Proofs.YtkcgokkgefgcjaaDoor.G0 Go.Proofs.YtkcgokkgefgcjaaDoor.G1
set_option linter.unusedVariables false
set_option linter.unusedSimpArgs false
set_option maxRecDepth 100000
/-- What somebody is given. -/
def shOf (l : List (Nat × Slot)) (i : Nat) : List Slot := (l.filter fun p => p.1 == i).map Prod.snd
theorem shOf_app (a b : List (Nat × Slot)) (i : Nat) : shOf (a ++ b) i = shOf a i ++ shOf b i := by simp [shOf]
theorem giveD_get (D : DD) (j : Nat) (x : Slot) {i : Nat} (hi : i < D.length) : (giveD D j x).getD i d0 = ((D.getD i d0).1, (D.getD i d0).2 ++ shOf [(j, x)] i) := by
  unfold giveD shOf
  by_cases h : j = i
  · subst h
    simp [List.getD, hi]
  · have h2 : (j == i) = false := by simpa using h
    simp [List.getD, h, h2]
theorem giveA_get : ∀ (l : List (Nat × Slot)) (D : DD) {i : Nat}, i < D.length → (giveA D l).getD i d0 = ((D.getD i d0).1, (D.getD i d0).2 ++ shOf l i)
  | [], D, i, hi => by simp [giveA, shOf]
  | p :: l, D, i, hi => by
    show (giveA (giveD D p.1 p.2) l).getD i d0 = _
    rw [giveA_get l _ (by rw [giveD_len]; exact hi), giveD_get D _ _ hi]
    simp only [List.append_assoc]
    rw [← shOf_app]
    rfl
def wanted (ms : List Mem) (nm : By) : Bool := (List.range ms.length).any (hasT ms nm)
structure Good (ms : List Mem) (ts : List Top) (l : List (Nat × Slot)) : Prop where
  slots : l.map Prod.snd = (slotsOf ts).filter fun x => wanted ms x.1
  who : ∀ p ∈ l, p.1 < ms.length ∧ hasT ms p.2.1 p.1 = true
theorem who_eq (ms : List Mem) (t : Top) : whoOf ms t ms.length = (List.range ms.length).filter (hasT ms t.name) := rfl
theorem asgT_snd (nm : By) (parts : Nat) (who : List Nat) : ∀ k, (asgT nm parts who k).map Prod.snd = (List.range (cum parts who.length k)).map fun j => (nm, ((j : Nat) : Int))
  | 0 => rfl
  | k + 1 => by
    rw [asgT_succ, List.map_append, asgT_snd nm parts who k, cum, List.range_add, List.map_append]
    congr 1
    simp [asgK]
theorem cum_all {parts n : Nat} (hn : 0 < n) : cum parts n n = parts := by
  rw [cum_eq]
  have h2 := Nat.div_add_mod parts n
  have h3 := Nat.mod_lt parts hn
  rw [Nat.min_eq_right (by omega)]
  exact h2
theorem asgT_who (nm : By) (parts : Nat) (who : List Nat) {k : Nat} (hk : k ≤ who.length) : ∀ p ∈ asgT nm parts who k, p.1 ∈ who ∧ p.2.1 = nm := by
  intro p hp
  obtain ⟨j, hj, hp⟩ := List.mem_flatMap.1 hp
  obtain ⟨x, hx, rfl⟩ := List.mem_map.1 hp
  have hj' : j < who.length := by have : j < k := by simpa using hj
                                  omega
  exact ⟨by rw [List.getD, List.getElem?_eq_getElem hj']; exact List.getElem_mem hj', rfl⟩
theorem good_range (ms : List Mem) : ∀ (ts : List Top), Good ms ts (rangeA ms ts)
  | [] => ⟨rfl, fun p hp => by simp [rangeA] at hp⟩
  | t :: ts => by
    have ih := good_range ms ts
    have e1 : rangeA ms (t :: ts) = asgT t.name t.parts.toNat (whoOf ms t ms.length) (whoOf ms t ms.length).length ++ rangeA ms ts := by simp [rangeA]
    have e2 : slotsOf (t :: ts) = ((List.range t.parts.toNat).map fun j => (t.name, ((j : Nat) : Int))) ++ slotsOf ts := by simp [slotsOf]
    refine ⟨?_, fun p hp => ?_⟩
    · rw [e1, e2, List.map_append, List.filter_append, ih.slots, asgT_snd]
      congr 1
      cases hw : wanted ms t.name with
      | false =>
        have : whoOf ms t ms.length = [] := by
          rw [who_eq, List.filter_eq_nil_iff]
          intro i hi h
          have := List.any_eq_false.1 hw i hi
          exact this h
        rw [this, List.filter_eq_nil_iff.2]
        · rfl
        · intro x hx
          obtain ⟨j, _, rfl⟩ := List.mem_map.1 hx
          simp [hw]
      | true =>
        obtain ⟨i, hi, h⟩ := List.any_eq_true.1 hw
        have hpos : 0 < (whoOf ms t ms.length).length := List.length_pos_of_mem (a := i) (by rw [who_eq]; exact List.mem_filter.2 ⟨hi, h⟩)
        rw [cum_all hpos, List.filter_eq_self.2]
        intro x hx
        obtain ⟨j, _, rfl⟩ := List.mem_map.1 hx
        exact hw
    · rw [e1] at hp
      rcases List.mem_append.1 hp with hp | hp
      · obtain ⟨h1, h2⟩ := asgT_who _ _ _ (Nat.le_refl _) p hp
        rw [who_eq] at h1
        obtain ⟨h3, h4⟩ := List.mem_filter.1 h1
        exact ⟨by simpa using h3, by rw [h2]; exact h4⟩
      · exact ih.who p hp
theorem pick_none {ms : List Mem} {nm : By} {next : Nat} (h : pick ms nm next = none) : wanted ms nm = false := by
  unfold wanted
  rw [List.any_eq_false]
  intro i hi hh
  have hi' : i < ms.length := by simpa using hi
  have h1 := List.find?_eq_none.1 h ((next + ((i + ms.length - next % ms.length) % ms.length)) % ms.length) (List.mem_map.2 ⟨_, List.mem_range.2 (Nat.mod_lt _ (by omega)), rfl⟩)
  have h2 : (next + ((i + ms.length - next % ms.length) % ms.length)) % ms.length = i := by
    have h3 := Nat.mod_lt next (show 0 < ms.length by omega)
    have h4 := Nat.div_add_mod next ms.length
    rw [Nat.add_mod_mod]
    rw [show next + (i + ms.length - next % ms.length) = i + ms.length * (next / ms.length + 1) by rw [Nat.mul_add, Nat.mul_one]; omega]
    rw [Nat.add_mul_mod_self_left, Nat.mod_eq_of_lt hi']
  rw [h2] at h1
  exact h1 hh
theorem good_roundG (ms : List Mem) : ∀ (xs : List Slot) (g : Nat × List (Nat × Slot)), (∀ p ∈ g.2, p.1 < ms.length ∧ hasT ms p.2.1 p.1 = true) →
    (xs.foldl (roundStep ms) g).2.map Prod.snd = g.2.map Prod.snd ++ xs.filter (fun x => wanted ms x.1) ∧ ∀ p ∈ (xs.foldl (roundStep ms) g).2, p.1 < ms.length ∧ hasT ms p.2.1 p.1 = true
  | [], g, h => ⟨by simp, h⟩
  | x :: xs, g, h => by
    rw [List.foldl_cons]
    cases hp : pick ms x.1 g.1 with
    | none =>
      have e : roundStep ms g x = g := by simp [roundStep, hp]
      rw [e, List.filter_cons, pick_none hp]
      exact good_roundG ms xs g h
    | some i =>
      obtain ⟨h1, h2⟩ := pick_lt hp
      have hw : wanted ms x.1 = true := List.any_eq_true.2 ⟨i, by simpa using h1, h2⟩
      have e : roundStep ms g x = (i + 1, g.2 ++ [(i, x)]) := by simp [roundStep, hp]
      rw [e, List.filter_cons, hw]
      obtain ⟨q1, q2⟩ := good_roundG ms xs (i + 1, g.2 ++ [(i, x)]) (fun p hp => by
        rcases List.mem_append.1 hp with hp | hp
        · exact h p hp
        · simp only [List.mem_singleton] at hp; subst hp; exact ⟨h1, h2⟩)
      exact ⟨by rw [q1]; simp, q2⟩
theorem good_round (ms : List Mem) (ts : List Top) : Good ms ts (roundA ms ts) := by
  obtain ⟨h1, h2⟩ := good_roundG ms (slotsOf ts) (0, []) (fun p hp => by cases hp)
  exact ⟨by simpa [roundA, roundG] using h1, h2⟩
/-- A slot is one of a topic's. -/
theorem mem_slots (ts : List Top) (x : Slot) : x ∈ slotsOf ts ↔ ∃ t ∈ ts, t.name = x.1 ∧ 0 ≤ x.2 ∧ x.2 < t.parts := by
  constructor
  · intro h
    obtain ⟨t, ht, h⟩ := List.mem_flatMap.1 h
    obtain ⟨j, hj, rfl⟩ := List.mem_map.1 h
    have : j < t.parts.toNat := by simpa using hj
    exact ⟨t, ht, rfl, by simp, by show (j : Int) < t.parts; omega⟩
  · rintro ⟨t, ht, h1, h2, h3⟩
    refine List.mem_flatMap.2 ⟨t, ht, List.mem_map.2 ⟨x.2.toNat, by simp; omega, ?_⟩⟩
    obtain ⟨a, b⟩ := x
    simp only at h1 h2 ⊢
    rw [h1, Int.toNat_of_nonneg h2]
theorem slots_nodup : ∀ ts : List Top, (ts.map Top.name).Nodup → (slotsOf ts).Nodup
  | [], _ => List.nodup_nil
  | t :: ts, h => by
    rw [List.map_cons, List.nodup_cons] at h
    have e2 : slotsOf (t :: ts) = ((List.range t.parts.toNat).map fun j => (t.name, ((j : Nat) : Int))) ++ slotsOf ts := by simp [slotsOf]
    rw [e2, List.nodup_append]
    refine ⟨?_, slots_nodup ts h.2, ?_⟩
    · unfold List.Nodup
      rw [List.pairwise_map]
      refine List.Pairwise.imp ?_ List.nodup_range
      intro a b hab e
      injection e with _ e
      exact hab (by omega)
    · intro a ha b hb e
      obtain ⟨j, _, rfl⟩ := List.mem_map.1 ha
      subst e
      obtain ⟨t', h1, h2, -⟩ := (mem_slots ts _).1 hb
      exact h.1 (List.mem_map.2 ⟨t', h1, h2⟩)
theorem snoc_ind {α : Type} {p : List α → Prop} (h0 : p []) (hs : ∀ l x, p l → p (l ++ [x])) (l : List α) : p l := by
  have : ∀ l : List α, p l.reverse := fun l => by
    induction l with
    | nil => exact h0
    | cons x l ih => rw [List.reverse_cons]; exact hs _ _ ih
  have := this l.reverse
  rwa [List.reverse_reverse] at this
end Go.Proofs.YtkcgokkgefgcjaaDoor.AS
end
section
namespace Go.Proofs.YtkcgokkgefgcjaaDoor.AS
open Go.Proofs.YtkcgokkgefgcjaaDoor.H Go.Proofs.YtkcgokkgefgcjaaDoor.G0 Go.Proofs.YtkcgokkgefgcjaaDoor.G1
set_option linter.unusedVariables false
set_option linter.unusedSimpArgs false
set_option maxRecDepth 100000
def slV (l : List Slot) : HV := accV 2 l.length (rows slC l)
def shE (d : By × List Slot) : List HV := [strV d.1, slV d.2]
theorem shE_len (d : By × List Slot) : (shE d).length = 2 := rfl
theorem slV_frz (l : List Slot) (p : Nat) (cs : List HV) : frz0 p cs (slV l) = slV l := by
  unfold slV accV
  split <;> rfl
theorem shE_frz (D : DD) (p : Nat) (cs : List HV) : (rows shE D).map (frz0 p cs) = rows shE D := by
  induction D with
  | nil => rfl
  | cons d D ih => rw [rows_cons, List.map_append, ih]; simp only [shE, List.map_cons, List.map_nil, slV_frz]; rfl
theorem shE_one (D : DD) : ∀ x ∈ rows shE D, hone x = true := rows_ones (fun d y hy => by
  simp only [shE, List.mem_cons, List.not_mem_nil, or_false] at hy
  rcases hy with rfl | rfl
  · rfl
  · unfold slV accV; split <;> rfl) D
theorem shC_frz {b t : HS} (L : List Sh) (p : Nat) (cs : List HV) (h : ∀ x ∈ L, Acc b t 2 x.row x.sl.length (rows slC x.sl)) (hp : ∀ x ∈ L, accId x.row ≠ some p) : (rows shC L).map (frz0 p cs) = rows shC L := by
  induction L with
  | nil => rfl
  | cons d D ih =>
    rw [rows_cons, List.map_append, ih (fun x hx => h x (List.mem_cons_of_mem _ hx)) (fun x hx => hp x (List.mem_cons_of_mem _ hx))]
    have h1 := h d List.mem_cons_self
    have h2 := hp d List.mem_cons_self
    have e : frz0 p cs d.row = d.row := by
      rcases h1 with ⟨e, -⟩ | ⟨q, f, -, e, -⟩
      · rw [e]; rfl
      · rw [e] at h2 ⊢
        have : ¬ q = p := fun e2 => h2 (by rw [e2]; rfl)
        simp [frz0, phi, this]
    simp only [shC, List.map_cons, List.map_nil, e]
    rfl
theorem shUp_aux {b : HS} {q : Nat} {xs : List HV} (hx : ∀ p cs, p ≠ q → xs.map (frz2 p cs) = xs) (hq : b q = none) : ∀ (post : List Sh) (pre : DD) (t : HS), HS.le b t → t q = some (.cells (rows shE pre ++ rows shC post)) →
    (∀ x ∈ post, Acc b t 2 x.row x.sl.length (rows slC x.sl)) → post.Pairwise (fun x y => accId x.row = none ∨ accId x.row ≠ accId y.row) → (∀ x ∈ post, accId x.row ≠ some q) →
    ∃ t', HS.le b t' ∧ t' q = some (.cells (rows shE (pre ++ post.map dOf))) ∧ UpL xs t xs t'
  | [], pre, t, hb, ht, ha, hp, hs => ⟨t, hb, by rw [ht]; simp [rows], UpL.refl _ _⟩
  | x :: post, pre, t, hb, ht, ha, hp, hs => by
    have hax := ha x List.mem_cons_self
    have hsx := hs x List.mem_cons_self
    rw [List.pairwise_cons] at hp
    have e1 : pre ++ (x :: post).map dOf = (pre ++ [dOf x]) ++ post.map dOf := by simp
    rcases hax with ⟨h1, h2, h3⟩ | ⟨p, f, h1, h2, h3, h4, h5⟩
    · have e2 : rows shE pre ++ rows shC (x :: post) = rows shE (pre ++ [dOf x]) ++ rows shC post := by
        have : x.sl = [] := List.eq_nil_of_length_eq_zero h3
        rw [rows_cons, rows_app, rows_one]
        simp [shE, shC, dOf, this, h1, slV, accV]
      rw [e1]
      exact shUp_aux hx hq post (pre ++ [dOf x]) t hb (by rw [← e2]; exact ht) (fun y hy => ha y (List.mem_cons_of_mem _ hy)) hp.2 (fun y hy => hs y (List.mem_cons_of_mem _ hy))
    · have hpq : p ≠ q := fun e => hsx (by rw [h2, e]; rfl)
      obtain ⟨t1, ht1⟩ : ∃ t1 : HS, t1 = fun k => if k = p then none else if k = q then some (.cells (rows shE (pre ++ [dOf x]) ++ rows shC post)) else t k := ⟨_, rfl⟩
      have hap : ∀ y ∈ post, accId y.row ≠ some p := fun y hy e => by
        rcases hp.1 y hy with h | h
        · rw [h2] at h; cases h
        · exact h (by rw [e, h2]; rfl)
      have hu : UpL xs t xs t1 := by
        have hu := UpL.frzG (xs := xs) (s' := t1) h3 fun k o hk => ?_
        · rw [hx p _ hpq] at hu; exact hu
        · rw [ht1] at hk
          simp only at hk
          split at hk
          · cases hk
          · rename_i hkp
            split at hk
            · rename_i hkq
              subst hkq
              cases hk
              refine ⟨hkp, _, ht, .inr ?_⟩
              simp only [frzO, List.map_append, shE_frz, rows_cons, rows_app, rows_one, List.append_assoc]
              rw [shC_frz post p _ (fun y hy => ha y (List.mem_cons_of_mem _ hy)) hap]
              have e5 : frz0 p (rows slC x.sl) x.row = slV x.sl := by
                rw [h2]
                simp only [frz0, phi, Nat.zero_add, h4, Nat.le_refl, and_self, if_true, Option.getD_some, List.drop_zero, slV, accV, h5, if_false]
                rw [List.take_of_length_le (by omega)]
              simp only [shC, List.map_cons, List.map_nil, e5]
              rfl
            · exact ⟨hkp, o, hk, .inl rfl⟩
      have hb1 : HS.le b t1 := fun k ob hk => by
        have hkp : k ≠ p := by rintro rfl; rw [h1] at hk; cases hk
        have hkq : k ≠ q := by rintro rfl; rw [hq] at hk; cases hk
        rw [ht1]
        simp only [if_neg hkp, if_neg hkq]
        exact hb k ob hk
      obtain ⟨t', g1, g2, g3⟩ := shUp_aux hx hq post (pre ++ [dOf x]) t1 hb1 (by rw [ht1]; simp [Ne.symm hpq]) (fun y hy => (ha y (List.mem_cons_of_mem _ hy)).keep fun k ob hk hk2 => by
        have hkp : k ≠ p := by rintro rfl; exact hap y hy hk
        have hkq : k ≠ q := by rintro rfl; exact hs y (List.mem_cons_of_mem _ hy) hk
        rw [ht1]
        simp only [if_neg hkp, if_neg hkq]
        exact hk2) hp.2 (fun y hy => hs y (List.mem_cons_of_mem _ hy))
      exact ⟨t', g1, by rw [e1]; exact g2, hu.trans g3⟩
theorem SharesP.up {b u : HS} {SH : HV} {D : DD} (h : SharesP b u SH D) (hb : HS.le b u) (X : HV → List HV) (hX : ∀ q n f p cs, (X (.view q 0 2 n f)).map (frz2 p cs) = X (frz0 p cs (.view q 0 2 n f))) :
    ∃ o : Option DD, o.getD [] = D ∧ UpL (X SH) u (X (rowV shE 2 o)) b := by
  rcases h with ⟨rfl, rfl⟩ | ⟨q, f, L, rfl, rfl, h3⟩
  · exact ⟨none, rfl, UpL.le _ hb⟩
  · have hpw : L.Pairwise (fun x y => accId x.row = none ∨ accId x.row ≠ accId y.row) := by
      rw [List.pairwise_iff_getElem]
      intro i j hi hj hij
      have := h3.apart i j hij hj
      rw [getD_get _ _ hi, getD_get _ _ hj] at this
      exact this
    obtain ⟨t', g1, g2, g3⟩ := shUp_aux (xs := X (.view q 0 2 (L.map dOf).length f)) (b := b) (q := q) (fun p cs hpq => by
      rw [hX]
      have : ¬ q = p := fun e => hpq e.symm
      simp [frz0, phi, this]) h3.free L [] u hb (by rw [h3.at_]; simp [rows]) h3.acc hpw h3.self
    refine ⟨some (L.map dOf), rfl, g3.trans ?_⟩
    have := UpL.frzD (xs := X (.view q 0 2 (L.map dOf).length f)) g2 g1 h3.free
    rw [hX] at this
    simp only [frz0, phi, Nat.zero_add, rows_len shE_len, List.nil_append, Nat.le_refl, and_self, if_true, Option.getD_some, List.drop_zero] at this
    rw [rows_all shE_len] at this
    exact this
end Go.Proofs.YtkcgokkgefgcjaaDoor.AS
end
section
namespace Go.Proofs.YtkcgokkgefgcjaaDoor.AS
open Go.Proofs.YtkcgokkgefgcjaaDoor.H Go.Proofs.YtkcgokkgefgcjaaDoor.G0 Go.Proofs.YtkcgokkgefgcjaaDoor.G1
set_option linter.unusedVariables false
set_option linter.unusedSimpArgs false
set_option maxRecDepth 100000
section
variable {α : Type} (nm : α → By)
/-- Where a value goes in. -/
def insK (x : α) (out : List α) : Nat → Nat
  | 0 => 0
  | k + 1 => match out[k]? with
    | some y => if bl_ (nm x) (nm y) = true then insK x out k else k + 1
    | none => k + 1
def insA (x : α) (out : List α) : List α := out.take (insK nm x out out.length) ++ x :: out.drop (insK nm x out out.length)
def isort (l : List α) : List α := l.foldl (fun out x => insA nm x out) []
theorem isort_snoc (l : List α) (x : α) : isort nm (l ++ [x]) = insA nm x (isort nm l) := by simp [isort]
theorem insK_le (x : α) (out : List α) : ∀ k, insK nm x out k ≤ k
  | 0 => Nat.le_refl _
  | k + 1 => by
    simp only [insK]
    split
    · split
      · exact Nat.le_succ_of_le (insK_le x out k)
      · exact Nat.le_refl _
    · exact Nat.le_refl _
theorem insA_perm (x : α) (out : List α) : (insA nm x out).Perm (x :: out) := by
  unfold insA
  refine List.perm_middle.trans (List.Perm.cons x ?_)
  rw [List.take_append_drop]
theorem isort_perm (l : List α) : (isort nm l).Perm l := by
  refine snoc_ind (p := fun l => (isort nm l).Perm l) (List.Perm.refl _) ?_ l
  intro l x ih
  rw [isort_snoc]
  refine (insA_perm nm x _).trans ((List.Perm.cons x ih).trans ?_)
  exact (List.perm_append_singleton x l).symm
theorem insK_gt (x : α) (out : List α) : ∀ k, k ≤ out.length → (∀ j y, insK nm x out k ≤ j → j < k → out[j]? = some y → bl_ (nm x) (nm y) = true) ∧ (∀ y, insK nm x out k ≠ 0 → out[insK nm x out k - 1]? = some y → bl_ (nm x) (nm y) = false)
  | 0, _ => ⟨fun j y _ h => absurd h (Nat.not_lt_zero _), fun y h => absurd rfl h⟩
  | k + 1, hk => by
    have hlt : k < out.length := hk
    simp only [insK, List.getElem?_eq_getElem hlt]
    obtain ⟨h1, h2⟩ := insK_gt x out k (by omega)
    split
    · rename_i hb
      refine ⟨fun j y hj hjk hy => ?_, h2⟩
      rcases Nat.lt_succ_iff_lt_or_eq.1 hjk with h | rfl
      · exact h1 j y hj h hy
      · rw [List.getElem?_eq_getElem hlt] at hy; cases hy; exact hb
    · rename_i hb
      refine ⟨fun j y hj hjk hy => by omega, fun y _ hy => ?_⟩
      rw [Nat.add_sub_cancel, List.getElem?_eq_getElem hlt] at hy
      cases hy
      simpa using hb
theorem insA_sorted (x : α) (out : List α) (h : out.Pairwise fun a b => bl_ (nm b) (nm a) = false) : (insA nm x out).Pairwise fun a b => bl_ (nm b) (nm a) = false := by
  have hO := ordr_name nm
  obtain ⟨h1, h2⟩ := insK_gt nm x out out.length (Nat.le_refl _)
  have hle := insK_le nm x out out.length
  unfold insA
  generalize insK nm x out out.length = k at *
  rw [List.pairwise_append, List.pairwise_cons]
  have hd : ∀ y ∈ out.drop k, bl_ (nm x) (nm y) = true := fun y hy => by
    obtain ⟨j, hj, rfl⟩ := List.mem_iff_getElem.1 hy
    rw [List.getElem_drop]
    have : k + j < out.length := by simp at hj; omega
    exact h1 (k + j) _ (by omega) this (List.getElem?_eq_getElem this)
  have hx : ∀ y ∈ out.take k, bl_ (nm x) (nm y) = false := fun y hy => by
    obtain ⟨j, hj, rfl⟩ := List.mem_iff_getElem.1 hy
    rw [List.getElem_take]
    have hjk : j < k := by simp at hj; omega
    have hk1 : k - 1 < out.length := by omega
    have h3 := h2 _ (by omega) (List.getElem?_eq_getElem hk1)
    by_cases hj1 : j = k - 1
    · subst hj1; exact h3
    · have h4 := List.pairwise_iff_getElem.1 h j (k - 1) (by omega) hk1 (by omega)
      exact hO.2 _ _ _ h4 h3
  refine ⟨h.sublist (List.take_sublist _ _), ⟨fun y hy => bl_asymm (hd y hy), h.sublist (List.drop_sublist _ _)⟩, fun a ha b hb => ?_⟩
  rcases List.mem_cons.1 hb with rfl | hb
  · exact hx a ha
  · cases e : bl_ (nm b) (nm a) with
    | false => rfl
    | true =>
      have := bl_trans _ _ _ (hd b hb) e
      rw [hx a ha] at this; cases this
theorem isort_sorted (l : List α) : (isort nm l).Pairwise fun a b => bl_ (nm b) (nm a) = false := by
  refine snoc_ind (p := fun l => (isort nm l).Pairwise fun a b => bl_ (nm b) (nm a) = false) List.Pairwise.nil ?_ l
  intro l x ih
  rw [isort_snoc]
  exact insA_sorted nm x _ ih
theorem isort_len (l : List α) : (isort nm l).length = l.length := (isort_perm nm l).length_eq
end
abbrev isM (l : List Mem) : List Mem := isort Mem.id l
abbrev isT (l : List Top) : List Top := isort Top.name l
/-- The shares. -/
def shD (rg : List Mem → List Top → List (Nat × Slot)) (l : List Mem) (tl : List Top) : DD := giveA ((isM l).map fun m => (m.id, [])) (rg (isM l) (isT tl))
theorem postU {rg : List Mem → List Top → List (Nat × Slot)} {l : List Mem} {tl : List Top} {s u : HS} {v : HV} (h : postRange rg l tl s v u) :
    ∃ v' u', UpL [v] u [v'] u' ∧ u' = s ∧ ((¬ okA l tl ∧ v' = .tup [nilV, .lit (.int .i64 1)]) ∨ (okA l tl ∧ ∃ o : Option DD, o.getD [] = shD rg l tl ∧ v' = .tup [rowV shE 2 o, .lit (.int .i64 0)])) := by
  obtain ⟨hle, h⟩ := h
  rcases h with ⟨h1, rfl⟩ | ⟨h1, ms, ts, SH, pm, pt, sm, st, rfl, hP⟩
  · exact ⟨_, s, UpL.le _ hle, rfl, .inl ⟨h1, rfl⟩⟩
  · obtain ⟨o, ho, hu⟩ := hP.up hle (fun v => [.tup [v, .lit (.int .i64 0)]]) (fun q n f p cs => rfl)
    refine ⟨_, s, hu, rfl, .inr ⟨h1, o, ?_, rfl⟩⟩
    have e1 : isM l = ms := sorted_is Mem.id ((isort_perm Mem.id l).trans pm.symm) (isort_sorted Mem.id l) sm
    have e2 : isT tl = ts := sorted_is Top.name ((isort_perm Top.name tl).trans pt.symm) (isort_sorted Top.name tl) st
    rw [ho, shD, e1, e2]
theorem range13U {s : HS} {A B : HV} {l : List Mem} {tl : List Top} (hA : RowV s 2 A l.length (rows memC l)) (hB : RowV s 2 B tl.length (rows topC tl)) (hl : l.length ≤ 1000000) (htl : tl.length ≤ 1000000) (htp : ∀ m ∈ l, (m.tp.getD []).length ≤ 1000000000) :
    HC Tryd.prog 53 [A, B] s (fun v u => u = s ∧ ((¬ okA l tl ∧ v = .tup [nilV, .lit (.int .i64 1)]) ∨ (okA l tl ∧ ∃ o : Option DD, o.getD [] = shD rangeA l tl ∧ v = .tup [rowV shE 2 o, .lit (.int .i64 0)]))) :=
  HC.up ((range13 hA hB hl htl htp).mono fun v u h => postU h)
theorem round10U {s : HS} {A B : HV} {l : List Mem} {tl : List Top} (hA : RowV s 2 A l.length (rows memC l)) (hB : RowV s 2 B tl.length (rows topC tl)) (hl : l.length ≤ 1000000) (htl : tl.length ≤ 1000000) (htp : ∀ m ∈ l, (m.tp.getD []).length ≤ 1000000000) :
    HC Tryd.prog 52 [A, B] s (fun v u => u = s ∧ ((¬ okA l tl ∧ v = .tup [nilV, .lit (.int .i64 1)]) ∨ (okA l tl ∧ ∃ o : Option DD, o.getD [] = shD roundA l tl ∧ v = .tup [rowV shE 2 o, .lit (.int .i64 0)]))) :=
  HC.up ((round10 hA hB hl htl htp).mono fun v u h => postU h)
theorem idx_rowV {α : Type} {enc : α → List HV} {sz : Nat} (h : ∀ x, (enc x).length = sz) (z : α) (o : Option (List α)) {i : Nat} (hi : i < (o.getD []).length) : vIdx sz (rowV enc sz o) (.lit (.int .i64 (i : Int))) = some (.elt (enc ((o.getD []).getD i z)) 0) := by
  cases o with
  | none => simp at hi
  | some l => exact idx_rowL h z l .i64 hi
theorem neq_n (a b : Nat) : vCmp (Tryd.prog.underlying 3) .neq (.lit (.int .i64 (a : Int))) (.lit (.int .i64 (b : Int))) = some (.lit (.bool (!decide (a = b)))) := by
  simp only [vCmp, vBin, if_true, Option.some.injEq, HV.lit.injEq, Value.bool.injEq, bne]
  congr 1
  rw [Bool.eq_iff_iff]
  simp only [beq_iff_eq, decide_eq_true_eq]
  omega
theorem eql_s (a b : By) : vCmp (Tryd.prog.underlying 9) .eql (strV a) (strV b) = some (.lit (.bool (decide (a = b)))) := by
  simp only [vCmp, vBin, strV, toL, Option.some.injEq, HV.lit.injEq, Value.bool.injEq]
  rw [Bool.eq_iff_iff]
  simp
theorem neq_s (a b : By) : vCmp (Tryd.prog.underlying 9) .neq (strV a) (strV b) = some (.lit (.bool (!decide (a = b)))) := by
  simp only [vCmp, vBin, strV, toL, Option.some.injEq, HV.lit.injEq, Value.bool.injEq]
  congr 1
  rw [Bool.eq_iff_iff]
  simp
theorem inc_i {i n : Nat} (hi : i < n) (hn : n ≤ 9223372036854775807) : vBin .add (.lit (.int .i64 (i : Int))) (.lit (.int .i64 1)) = some (.lit (.int .i64 ((i + 1 : Nat) : Int))) := by
  rw [wlit1, add_i (by omega)]
theorem slV_row (l : List Slot) : ∃ o : Option (List Slot), slV l = rowV slC 2 o ∧ o.getD [] = l := by
  cases l with
  | nil => exact ⟨none, rfl, rfl⟩
  | cons x l => exact ⟨some (x :: l), by simp [slV, accV, rowV, rowL], rfl⟩
end Go.Proofs.YtkcgokkgefgcjaaDoor.AS
end
section
namespace Go.Proofs.YtkcgokkgefgcjaaDoor.AS
open Go.Proofs.YtkcgokkgefgcjaaDoor.H Go.Proofs.YtkcgokkgefgcjaaDoor.G0 Go.Proofs.YtkcgokkgefgcjaaDoor.G1
set_option linter.unusedVariables false
set_option linter.unusedSimpArgs false
set_option maxRecDepth 100000
theorem hBS_in {s : HS} {sz n : Nat} {zs cs : List HV} {parts : List (Nat × HV)} {K : HV → HS → Prop} (hf : hfill (fun i => some (i * sz, sz)) zs parts = some cs) (h : ∀ id, s id = none → K (.view id 0 sz n true) (s.set id (.cells cs))) : hBS s sz n zs parts K := by
  unfold hBS
  rw [hf]
  exact h
theorem gtr_n (a b : Int) : vBin .gtr (.lit (.int .i64 a)) (.lit (.int .i64 b)) = some (.lit (.bool (decide (b < a)))) := rfl
theorem lss_n (a b : Int) : vBin .lss (.lit (.int .i64 a)) (.lit (.int .i64 b)) = some (.lit (.bool (decide (a < b)))) := rfl
theorem leq_n (a b : Int) : vBin .leq (.lit (.int .i64 a)) (.lit (.int .i64 b)) = some (.lit (.bool (decide (a ≤ b)))) := rfl
theorem geq_n (a b : Int) : vBin .geq (.lit (.int .i64 a)) (.lit (.int .i64 b)) = some (.lit (.bool (decide (b ≤ a)))) := rfl
theorem add_n {a b : Int} (h : -9223372036854775808 ≤ a + b) (h' : a + b < 9223372036854775808) : vBin .add (.lit (.int .i64 a)) (.lit (.int .i64 b)) = some (.lit (.int .i64 (a + b))) := by
  simp only [vBin, if_true, w64 h h']
theorem sub_n {a b : Int} (h : -9223372036854775808 ≤ a - b) (h' : a - b < 9223372036854775808) : vBin .sub (.lit (.int .i64 a)) (.lit (.int .i64 b)) = some (.lit (.int .i64 (a - b))) := by
  simp only [vBin, if_true, w64 h h']
/-- What the statement looks at. -/
structure Small (l : List Mem) (t : List Top) : Prop where
  nl : l.length ≤ 1000
  tp : ∀ m ∈ l, (m.tp.getD []).length ≤ 1000
  nt : t.length ≤ 1000
  parts : ∀ x ∈ t, x.parts ≤ 60 ∨ 1000 < x.parts
structure InSize (l : List Mem) (t : List Top) : Prop where
  nl : l.length ≤ 9223372036854775807
  ids : ∀ m ∈ l, m.id.length ≤ 9223372036854775807
  tp : ∀ m ∈ l, (m.tp.getD []).length ≤ 9223372036854775807 ∧ ∀ x ∈ m.tp.getD [], x.length ≤ 9223372036854775807
  nt : t.length ≤ 9223372036854775807
  name : ∀ x ∈ t, x.name.length ≤ 9223372036854775807
theorem len_tp (o : Option (List By)) (s : HS) : vLenT (Tryd.prog.underlying 32) s (rowV strC 1 o) = some (.lit (.int .i64 (((o.getD []).length : Nat) : Int))) := len_rowV o s
theorem getD_memD {α : Type} (z : α) {l : List α} {i : Nat} (h : i < l.length) : l.getD i z ∈ l := by rw [getD_get _ _ h]; exact List.getElem_mem h
end Go.Proofs.YtkcgokkgefgcjaaDoor.AS
end
section
namespace Go.Proofs.YtkcgokkgefgcjaaDoor.AS
open Go.Proofs.YtkcgokkgefgcjaaDoor.H Go.Proofs.YtkcgokkgefgcjaaDoor.G0 Go.Proofs.YtkcgokkgefgcjaaDoor.G1
set_option linter.unusedVariables false
set_option linter.unusedSimpArgs false
set_option maxRecDepth 100000
theorem has16 (o : Option (List By)) (k : By) (s : HS) (hl : (o.getD []).length ≤ 9223372036854775807) : HC Tryd.prog 18 [rowV strC 1 o, strV k] s (fun v s' => s' = s ∧ v = .lit (.bool (decide (k ∈ o.getD [])))) := by
  refine HC18 ?_
  unfold c18
  have i1 := fun i hi => idx_rowV (enc := strC) (sz := 1) (fun _ => rfl) [] o (i := i) hi
  refine HLoop.ghost (σ := Nat) (fun i => [.lit (.int .i64 (i : Int))]) (fun i t => i ≤ (o.getD []).length ∧ t = s ∧ k ∉ (o.getD []).take i) (fun i => (o.getD []).length - i) 0 rfl ⟨Nat.zero_le _, rfl, by simp⟩ ?_
  rintro i t K ⟨h1, rfl, h2⟩ hK
  simp only [List.headD_cons, len_tp, bindO, lss_i]
  by_cases hi : i < (o.getD []).length
  · have hts := take_succ' [] (o.getD []) hi
    have hm := getD_memD [] hi
    simp only [hi, decide_true, hcond, i1 i hi]
    generalize (o.getD []).getD i [] = x at *
    rw [show vLoad t (.elt (strC x) 0) 1 false = some (strV x) from rfl]
    simp only [eql_s]
    by_cases he : x = k
    · subst he
      simp only [decide_true]
      exact ⟨trivial, by simp [hm]⟩
    · simp only [he, decide_false, inc_i hi hl]
      refine hK (i + 1) _ _ rfl ⟨hi, rfl, ?_⟩ (by omega)
      rw [hts]
      intro hh
      rcases List.mem_append.1 hh with hh | hh
      · exact h2 hh
      · exact he (List.mem_singleton.1 hh).symm
  · obtain rfl : i = (o.getD []).length := by omega
    rw [List.take_length] at h2
    simp only [hi, decide_false, hcond]
    exact ⟨trivial, by simp [h2]⟩
theorem clone35 (o : Option (List Slot)) (s : HS) (hl : (o.getD []).length ≤ 1000000000) : HC Tryd.prog 43 [rowV slC 2 o] s (fun v t => ∃ o' : Option (List Slot), UpL [v] t [rowV slC 2 o'] s ∧ o'.getD [] = o.getD []) := by
  cases o with
  | none =>
    refine HC43 ?_
    unfold c43
    exact ⟨none, UpL.refl _ _, rfl⟩
  | some l =>
    have hgo : HC Tryd.prog 43 [.ne 2] s (fun v t => l = [] → ∃ o' : Option (List Slot), UpL [v] t [rowV slC 2 o'] s ∧ o'.getD [] = []) := by
      refine HC43 ?_
      unfold c43
      rw [show vCmp (Tryd.prog.underlying 34) .eql (.ne 2) (.lit (.slice none 0 0)) = some (.lit (.bool false)) from rfl]
      simp only [bindO, hcond]
      refine hBS0 fun id hid => ?_
      refine app_empty (b := s) (le_set_new _ (le_refl' s) hid) hid (set_at _ _ _) (x := .ne 2) (xs := []) (k := 0) rfl rfl rfl ⟨by omega, by omega⟩ fun A' t' k1 k2 _ => ⟨some [], acc0_upL k1 k2, rfl⟩
    cases l with
    | nil =>
      refine HC.nilOr (pre := []) (post := []) ?_ ?_
      · refine HC43 ?_
        unfold c43
        exact ⟨some [], UpL.trans (up_lit_nil 2 (le_refl' s)) (UpL.refl _ _), rfl⟩
      · exact hgo.mono fun v t h => h rfl
    | cons x l =>
      refine HC43 ?_
      unfold c43
      rw [show vCmp (Tryd.prog.underlying 34) .eql (rowV slC 2 (some (x :: l))) (.lit (.slice none 0 0)) = some (.lit (.bool false)) from rfl]
      simp only [bindO, hcond]
      refine hBS0 fun id hid => ?_
      simp only [Option.getD_some] at hl
      refine app_empty (b := s) (le_set_new _ (le_refl' s) hid) hid (set_at _ _ _) (x := rowV slC 2 (some (x :: l))) (xs := rows slC (x :: l)) (k := (x :: l).length) (lcells_rowL _ _) rfl (rows_len slC_len _) ⟨by omega, by omega⟩ fun A' t' k1 k2 => ⟨some (x :: l), acc0_upL k1 k2, rfl⟩
def ofD (D : DD) (k : By) : List Slot := match D.find? (fun d => d.1 == k) with
  | some d => d.2
  | none => []
theorem shE_l0 (s : HS) (d : By × List Slot) : vLoad s (.elt (shE d) 0) 2 true = some (.agg (shE d)) := rfl
theorem find_none_take {α : Type} {p : α → Bool} {l : List α} {i : Nat} (z : α) (hi : i < l.length) (h : ∀ x ∈ l.take i, p x = false) (ht : p (l.getD i z) = true) : l.find? p = some (l.getD i z) := by
  have e : l.find? p = (l.take i ++ l.drop i).find? p := by rw [List.take_append_drop]
  rw [e, List.find?_append, List.find?_eq_none.2 fun x hx => by rw [h x hx]; simp]
  rw [drop_cons' z l hi, List.find?_cons, ht]
  rfl
theorem of21 (o : Option DD) (k : By) (s : HS) (hl : (o.getD []).length ≤ 1000000000) (hs : ∀ d ∈ o.getD [], d.2.length ≤ 1000000000) : HC Tryd.prog 37 [rowV shE 2 o, strV k] s (fun v s' => s' = s ∧ ∃ o' : Option (List Slot), v = rowV slC 2 o' ∧ o'.getD [] = ofD (o.getD []) k) := by
  refine HC.up (HC37 ?_)
  unfold c37
  have i1 := fun i hi => idx_rowV shE_len d0 o (i := i) hi
  rw [show vLenT (Tryd.prog.underlying 58) s (rowV shE 2 o) = some (.lit (.int .i64 (((o.getD []).length : Nat) : Int))) from len_rowV o s]
  simp only [bindO]
  generalize o.getD [] = D at *
  refine HLoop.ghost (σ := Nat) (fun i => [.lit (.int .i64 (i : Int))]) (fun i t => i ≤ D.length ∧ HS.le s t ∧ ∀ d ∈ D.take i, (d.1 == k) = false) (fun i => D.length - i) 0 rfl ⟨Nat.zero_le _, le_refl' s, by simp⟩ ?_
  rintro i t K ⟨h1, h2, h3⟩ hK
  simp only [List.headD_cons, lss_i]
  by_cases hi : i < D.length
  · have hts := take_succ' d0 D hi
    have hm := hs _ (getD_memD d0 hi)
    have hf := fun h => find_none_take (p := fun d => d.1 == k) d0 hi h3 h
    simp only [hi, decide_true, hcond, i1 i hi, shE_l0]
    generalize D.getD i d0 = d at *
    refine new_store rfl rfl (fun x hx => shE_one [d] x (by rw [rows_one]; exact hx)) fun X hX => ?_
    have l1 : vLoad (t.set X (.cells (shE d))) (.ptr X (0 + 0)) 1 false = some (strV d.1) := load_cell 0 1 (set_at _ _ _)
    have l2 : vLoad (t.set X (.cells (shE d))) (.ptr X (0 + 1)) 1 false = some (slV d.2) := load_cell 1 1 (set_at _ _ _)
    have hle := le_set_new (.cells (shE d)) h2 hX
    simp only [vField, l1, l2, eql_s]
    by_cases he : d.1 = k
    · simp only [he, decide_true]
      obtain ⟨o', e1, e2⟩ := slV_row d.2
      rw [e1]
      refine (clone35 o' _ (by rw [e2]; exact hm)).mono ?_
      rintro v u ⟨o2, g1, g2⟩
      refine ⟨_, _, g1.trans (UpL.le _ hle), rfl, o2, rfl, ?_⟩
      rw [g2, e2, ofD, hf (by simp [he])]
    · simp only [he, decide_false, inc_i hi (by omega)]
      refine hK (i + 1) _ _ rfl ⟨hi, hle, fun x hx => ?_⟩ (by omega)
      rw [hts] at hx
      rcases List.mem_append.1 hx with hx | hx
      · exact h3 x hx
      · rw [List.mem_singleton.1 hx]; simpa using he
  · obtain rfl : i = D.length := by omega
    rw [List.take_length] at h3
    simp only [hi, decide_false, hcond]
    refine ⟨_, s, UpL.le _ h2, rfl, none, rfl, ?_⟩
    rw [ofD, List.find?_eq_none.2 fun x hx => by rw [h3 x hx]; simp]
    rfl
/-- A number's digits. -/
def decL (n : Nat) : By := if h : n < 10 then [UInt8.ofNat (48 + n)] else decL (n / 10) ++ [UInt8.ofNat (48 + n % 10)]
termination_by n
decreasing_by omega
theorem decL_small {n : Nat} (h : n < 10) : decL n = [UInt8.ofNat (48 + n)] := by rw [decL, dif_pos h]
theorem decL_big {n : Nat} (h : ¬ n < 10) : decL n = decL (n / 10) ++ [UInt8.ofNat (48 + n % 10)] := by rw [decL, dif_neg h]
theorem decL_len : ∀ (k n : Nat), n < 10 ^ (k + 1) → (decL n).length ≤ k + 1
  | 0, n, h => by rw [decL_small (by simpa using h)]; simp
  | k + 1, n, h => by
    by_cases hn : n < 10
    · rw [decL_small hn]; simp
    · rw [decL_big hn, List.length_append, List.length_singleton]
      have := decL_len k (n / 10) (by rw [Nat.pow_succ] at h; omega)
      omega
theorem add_s {a b : By} (h : a.length + b.length ≤ 9223372036854775807) : vBin .add (strV a) (strV b) = some (strV (a ++ b)) := by
  have h1 : ¬ ((((⟨a.toArray⟩ : ByteArray).size + (⟨b.toArray⟩ : ByteArray).size : Nat) : Int) > IntKind.i64.max) := by
    show ¬ (((a.toArray.size + b.toArray.size : Nat) : Int) > 9223372036854775807)
    simp only [List.size_toArray]
    omega
  simp only [strV, vBin, if_neg h1]
  congr 3
end Go.Proofs.YtkcgokkgefgcjaaDoor.AS
end
section
namespace Go.Proofs.YtkcgokkgefgcjaaDoor.AS
open Go.Proofs.YtkcgokkgefgcjaaDoor.H Go.Proofs.YtkcgokkgefgcjaaDoor.G0 Go.Proofs.YtkcgokkgefgcjaaDoor.G1
set_option linter.unusedVariables false
set_option linter.unusedSimpArgs false
set_option maxRecDepth 100000
theorem acc_row {b t : HS} {sz : Nat} {A : HV} {n : Nat} {cs : List HV} (h : Acc b t sz A n cs) : RowV t sz A n cs := acc0_row (.inl h)
theorem eql_n (a b : Int) : vCmp (Tryd.prog.underlying 3) .eql (.lit (.int .i64 a)) (.lit (.int .i64 b)) = some (.lit (.bool (decide (a = b)))) := by
  simp only [vCmp, vBin, if_true, Option.some.injEq, HV.lit.injEq, Value.bool.injEq]
  rw [Bool.eq_iff_iff]
  simp
end Go.Proofs.YtkcgokkgefgcjaaDoor.AS
end
section
namespace Go.Proofs.YtkcgokkgefgcjaaDoor.AS
open Go.Proofs.YtkcgokkgefgcjaaDoor.H Go.Proofs.YtkcgokkgefgcjaaDoor.G0 Go.Proofs.YtkcgokkgefgcjaaDoor.G1
set_option linter.unusedVariables false
set_option linter.unusedSimpArgs false
set_option maxRecDepth 100000
theorem shD_get {rg : List Mem → List Top → List (Nat × Slot)} {l : List Mem} {tl : List Top} {i : Nat} (hi : i < l.length) : (shD rg l tl).getD i d0 = (((isM l).getD i m0).id, shOf (rg (isM l) (isT tl)) i) := by
  have hi' : i < (isM l).length := by rw [isort_len]; exact hi
  unfold shD
  rw [giveA_get _ _ (by rw [List.length_map]; exact hi')]
  have e : ((isM l).map fun m => ((m.id, []) : By × List Slot)).getD i d0 = (((isM l).getD i m0).id, []) := by
    simp [List.getD, hi']
  rw [e]
  simp
theorem shD_len (rg : List Mem → List Top → List (Nat × Slot)) (l : List Mem) (tl : List Top) : (shD rg l tl).length = l.length := by
  unfold shD
  rw [giveA_len, List.length_map, isort_len]
def valL (l : By) : Nat := l.foldl (fun a c => 10 * a + (c.toNat - 48)) 0
theorem valL_dec : ∀ n : Nat, valL (decL n) = n := by
  intro n
  induction n using Nat.strongRecOn with
  | ind n ih =>
    by_cases h : n < 10
    · rw [decL_small h]
      simp only [valL, List.foldl_cons, List.foldl_nil]
      rw [UInt8.toNat_ofNat_of_lt' (by show _ < 2 ^ 8; omega)]
      omega
    · rw [decL_big h, valL, List.foldl_append]
      have := ih (n / 10) (by omega)
      unfold valL at this
      rw [this]
      simp only [List.foldl_cons, List.foldl_nil]
      rw [UInt8.toNat_ofNat_of_lt' (by show _ < 2 ^ 8; omega)]
      omega
theorem decL_inj {a b : Nat} (h : decL a = decL b) : a = b := by rw [← valL_dec a, h, valL_dec]
end Go.Proofs.YtkcgokkgefgcjaaDoor.AS
end
section
namespace Go.Proofs.YtkcgokkgefgcjaaDoor.AS
open Go.Proofs.YtkcgokkgefgcjaaDoor.H Go.Proofs.YtkcgokkgefgcjaaDoor.G0 Go.Proofs.YtkcgokkgefgcjaaDoor.G1
set_option linter.unusedVariables false
set_option linter.unusedSimpArgs false
set_option maxRecDepth 100000
end Go.Proofs.YtkcgokkgefgcjaaDoor.AS
end
section
namespace Go.Proofs.YtkcgokkgefgcjaaDoor.AS
open Go.Proofs.YtkcgokkgefgcjaaDoor.H Go.Proofs.YtkcgokkgefgcjaaDoor.G0 Go.Proofs.YtkcgokkgefgcjaaDoor.G1
set_option linter.unusedVariables false
set_option linter.unusedSimpArgs false
set_option maxRecDepth 100000
end Go.Proofs.YtkcgokkgefgcjaaDoor.AS
end
section
namespace Go.Proofs.YtkcgokkgefgcjaaDoor.AS
open Go.Proofs.YtkcgokkgefgcjaaDoor.H Go.Proofs.YtkcgokkgefgcjaaDoor.G0 Go.Proofs.YtkcgokkgefgcjaaDoor.G1
set_option linter.unusedVariables false
set_option linter.unusedSimpArgs false
set_option maxRecDepth 100000
theorem round9 {k : Int} {n : Nat} (hn : 0 < n) (hn' : n ≤ 1000000) (s : HS) : HC Tryd.prog 15 [.lit (.int .i64 k), .lit (.int .i64 (n : Int))] s (fun v s' => s' = s ∧ v = .lit (.int .i64 (((k % (n : Int)).toNat : Nat) : Int))) := by
  refine HC15 ?_
  unfold c15
  have h0 : ¬ (n : Int) = 0 := by omega
  have h1 := Int.emod_nonneg k (b := (n : Int)) (by omega)
  have h2 := Int.emod_lt_of_pos k (b := (n : Int)) (by omega)
  have h3 := Int.tmod_eq_emod (a := k) (b := (n : Int))
  simp only [vBin, if_true, if_neg h0, bindO]
  have h4 : k.tmod (n : Int) = k % (n : Int) ∨ k.tmod (n : Int) = k % (n : Int) - n := by
    rw [h3]
    split
    · left; omega
    · right; simp
  have h5 : k.tmod (n : Int) < 0 → k.tmod (n : Int) = k % (n : Int) - n := fun h => by omega
  have h6 : ¬ k.tmod (n : Int) < 0 → k.tmod (n : Int) = k % (n : Int) := fun h => by omega
  refine Join.of (fun xs t => t = s ∧ xs = [.lit (.int .i64 (((k % (n : Int)).toNat : Nat) : Int))]) ?_ ?_
  · rintro _ t ⟨rfl, rfl⟩
    exact ⟨rfl, rfl⟩
  · intro K hK
    by_cases hc : k.tmod (n : Int) < 0
    · simp only [hc, decide_true, hcond]
      rw [w64 (by omega) (by omega)]
      refine hK _ _ ⟨rfl, ?_⟩
      congr 3
      omega
    · simp only [hc, decide_false, hcond]
      refine hK _ _ ⟨rfl, ?_⟩
      congr 3
      omega
def wantL (l : List Mem) (nm : By) : Bool := l.any fun m => decide (nm ∈ m.tp.getD [])
theorem wanted_eq (ms : List Mem) (nm : By) : wanted ms nm = wantL ms nm := by
  rw [Bool.eq_iff_iff]
  unfold wanted wantL hasT
  simp only [List.any_eq_true, List.mem_range, decide_eq_true_eq]
  constructor
  · rintro ⟨i, hi, h⟩
    exact ⟨_, getD_memD m0 hi, List.contains_iff_mem.1 h⟩
  · rintro ⟨m, hm, h⟩
    obtain ⟨i, hi, rfl⟩ := List.mem_iff_getElem.1 hm
    exact ⟨i, hi, by rw [getD_get _ _ hi]; exact List.contains_iff_mem.2 h⟩
theorem wantL_perm {l l' : List Mem} (h : l'.Perm l) (nm : By) : wantL l' nm = wantL l nm := by
  rw [Bool.eq_iff_iff]
  unfold wantL
  simp only [List.any_eq_true]
  exact ⟨fun ⟨m, hm, h'⟩ => ⟨m, h.mem_iff.1 hm, h'⟩, fun ⟨m, hm, h'⟩ => ⟨m, h.mem_iff.2 hm, h'⟩⟩
end Go.Proofs.YtkcgokkgefgcjaaDoor.AS
end
section
namespace Go.Proofs.YtkcgokkgefgcjaaDoor.AS
open Go.Proofs.YtkcgokkgefgcjaaDoor.H Go.Proofs.YtkcgokkgefgcjaaDoor.G0 Go.Proofs.YtkcgokkgefgcjaaDoor.G1
set_option linter.unusedVariables false
set_option linter.unusedSimpArgs false
set_option maxRecDepth 100000
open Classical in
noncomputable def errI (l : List Mem) (tl : List Top) : Int := if okA l tl then 0 else 1
open Classical in
noncomputable def resD (rg : List Mem → List Top → List (Nat × Slot)) (l : List Mem) (tl : List Top) : DD := if okA l tl then shD rg l tl else []
theorem uni {rg : List Mem → List Top → List (Nat × Slot)} {l : List Mem} {tl : List Top} {v : HV} (h : (¬ okA l tl ∧ v = .tup [nilV, .lit (.int .i64 1)]) ∨ (okA l tl ∧ ∃ o : Option DD, o.getD [] = shD rg l tl ∧ v = .tup [rowV shE 2 o, .lit (.int .i64 0)])) :
    ∃ o : Option DD, o.getD [] = resD rg l tl ∧ v = .tup [rowV shE 2 o, .lit (.int .i64 (errI l tl))] := by
  rcases h with ⟨h1, rfl⟩ | ⟨h1, o, h2, rfl⟩
  · exact ⟨none, by simp [resD, h1], by simp [errI, h1]; rfl⟩
  · exact ⟨o, by rw [h2]; simp [resD, h1], by simp [errI, h1]⟩
theorem shD_bound {rg : List Mem → List Top → List (Nat × Slot)} {l : List Mem} {tl : List Top} (hok : okA l tl) (hg : Good (isM l) (isT tl) (rg (isM l) (isT tl))) : ∀ d ∈ shD rg l tl, d.2.length ≤ 1000 * tl.length := fun d hd => by
  obtain ⟨j, hj, rfl⟩ := List.mem_iff_getElem.1 hd
  rw [shD_len] at hj
  rw [← getD_get d0 _ (by rw [shD_len]; exact hj), shD_get hj]
  have h1 : (shOf (rg (isM l) (isT tl)) j).length ≤ (rg (isM l) (isT tl)).length := by
    unfold shOf
    rw [List.length_map]
    exact List.length_filter_le _ _
  have h2 : (rg (isM l) (isT tl)).length ≤ (slotsOf (isT tl)).length := by
    have := congrArg List.length hg.slots
    rw [List.length_map] at this
    rw [this]
    exact List.length_filter_le _ _
  have h3 := slots_len (isT tl) fun x hx => (parts_ok hok.1 x ((isort_perm Top.name tl).mem_iff.1 hx)).2
  have h4 : (isT tl).length = tl.length := isort_len Top.name tl
  show (shOf (rg (isM l) (isT tl)) j).length ≤ _
  omega
theorem resD_bound {rg : List Mem → List Top → List (Nat × Slot)} (l : List Mem) (tl : List Top) (hg : Good (isM l) (isT tl) (rg (isM l) (isT tl))) : (resD rg l tl).length ≤ l.length ∧ ∀ d ∈ resD rg l tl, d.2.length ≤ 1000 * tl.length := by
  unfold resD
  split
  · rename_i hok
    exact ⟨by rw [shD_len]; exact Nat.le_refl _, shD_bound hok hg⟩
  · exact ⟨Nat.zero_le _, fun d hd => (by cases hd)⟩
end Go.Proofs.YtkcgokkgefgcjaaDoor.AS
end
end
section
namespace Go.Proofs.YtkcgokkgefgcjaaDoor.AS
open Go.Proofs.YtkcgokkgefgcjaaDoor.H Go.Proofs.YtkcgokkgefgcjaaDoor.G0
set_option linter.unusedVariables false
set_option linter.unusedSimpArgs false
set_option maxRecDepth 100000
structure GM where
  id : By
  tp : List By
  heard : Int
  joined : Bool
  synced : Bool
structure GG where
  session : Int
  rebalance : Int
  round : Bool
  state : Int
  gen : Int
  given : Int
  now : Int
  since : Int
  all : List Top
  l : List GM
  shares : DD
noncomputable def sharesOf (round : Bool) (l : List (By × List By)) (all : List Top) : DD := resD (if round then roundA else rangeA) (l.map fun p => (⟨p.1, some p.2⟩ : Mem)) all
namespace GG
def enter (g : GG) (st : Int) : GG := { g with state := st, since := g.now }
def prepares (g : GG) : GG := if g.l = [] then g.enter 1 else { g.enter 2 with l := g.l.map fun m => { m with joined := false } }
def over (g : GG) : Bool := decide (g.rebalance ≤ g.now - g.since)
def outs (g : GG) (p : GM → Bool) : GG := { g with l := g.l.filter fun m => !p m }
def any (g : GG) (p : GM → Bool) : Bool := g.l.any p
noncomputable def forms1 (g : GG) : GG :=
  let g1 := g.outs fun m => !m.joined
  if g1.l = [] then g1.enter 1 else
  { g1 with gen := g1.gen + 1, state := 3, since := g1.now, l := g1.l.map fun m => { m with synced := false }, shares := sharesOf g1.round (g1.l.map fun m => (m.id, m.tp)) g1.all }
noncomputable def forms (g : GG) : GG := if g.state = 2 ∧ (g.l.all (·.joined) || g.over) = true then g.forms1 else g
noncomputable def goes1 (g : GG) : GG :=
  let g2 := g.outs fun m => decide (g.session < g.now - m.heard)
  let g3 := if ((g.any fun m => decide (g.session < g.now - m.heard)) && !decide (g2.state = 2)) = true then g2.prepares else g2
  let g4 := if g3.state = 2 ∧ g3.l = [] then g3.enter 1 else g3
  g4.forms
def goes2 (g : GG) : GG := if g.state = 3 ∧ g.over = true ∧ (g.any fun m => !m.synced) = true then (g.outs fun m => !m.synced).prepares else g
noncomputable def goes (g : GG) (now : Int) : GG := { g with now := max g.now now }.goes1.goes2
noncomputable def tick (g : GG) (all : List Top) (now : Int) : GG := { g with all := all }.goes now
end GG
def gmC (m : GM) : List HV := [strV m.id, rowL strC 1 m.tp, .lit (.int .i64 m.heard), .lit (.bool m.joined), .lit (.bool m.synced)]
def gC (G : GG) (all A : HV) (o : Option DD) : List HV := [.lit (.int .i64 G.session), .lit (.int .i64 G.rebalance), .lit (.bool G.round), .lit (.int .i64 G.state), .lit (.int .i64 G.gen), .lit (.int .i64 G.given), .lit (.int .i64 G.now), .lit (.int .i64 G.since), all, A, rowV shE 2 o]
def pC (p : Nat × GM) : List HV := [.ptr p.1 0]
theorem pC_len (p : Nat × GM) : (pC p).length = 1 := rfl
def gm0 : GM := ⟨[], [], 0, false, false⟩
def p0 : Nat × GM := (0, gm0)
/-- A group, in memory: over what lies still (b). -/
structure GSt (b s : HS) (g : Nat) (G : GG) (all A : HV) (ps : List (Nat × GM)) (o : Option DD) : Prop where
  le : HS.le b s
  free : b g = none
  at_ : s g = some (.cells (gC G all A o))
  acc : AccX b s 1 A ps.length (rows pC ps)
  accg : accId A ≠ some g
  mem : ∀ p ∈ ps, b p.1 = none ∧ s p.1 = some (.cells (gmC p.2)) ∧ p.1 ≠ g ∧ accId A ≠ some p.1
  nodup : (ps.map Prod.fst).Nodup
  l : G.l = ps.map Prod.snd
  sh : o.getD [] = G.shares
def IsG (b s : HS) (g : Nat) (G : GG) : Prop := ∃ b' all A ps o, HS.le b b' ∧ RowV b' 2 all G.all.length (rows topC G.all) ∧ GSt b' s g G all A ps o
theorem IsG.base {b b' s : HS} {g : Nat} {G : GG} (h : IsG b s g G) (hle : HS.le b' b) : IsG b' s g G := by
  obtain ⟨c, all, A, ps, o, h1, h2, h3⟩ := h
  exact ⟨c, all, A, ps, o, HS.le.trans hle h1, h2, h3⟩
theorem IsG.le {b s : HS} {g : Nat} {G : GG} (h : IsG b s g G) : HS.le b s := by
  obtain ⟨c, all, A, ps, o, h1, h2, h3⟩ := h
  exact HS.le.trans h1 h3.le
theorem GSt.mono {b s t : HS} {g : Nat} {G : GG} {all A : HV} {ps : List (Nat × GM)} {o : Option DD} (h : GSt b s g G all A ps o) (hle : HS.le s t) : GSt b t g G all A ps o :=
  ⟨HS.le.trans h.le hle, h.free, hle _ _ h.at_, h.acc.le hle, h.accg, fun p hp => let ⟨h1, h2, h3⟩ := h.mem p hp; ⟨h1, hle _ _ h2, h3⟩, h.nodup, h.l, h.sh⟩
theorem IsG.mono {b s t : HS} {g : Nat} {G : GG} (h : IsG b s g G) (hle : HS.le s t) : IsG b t g G := by
  obtain ⟨c, all, A, ps, o, h1, h2, h3⟩ := h
  exact ⟨c, all, A, ps, o, h1, h2, h3.mono hle⟩
theorem GSt.len {b s : HS} {g : Nat} {G : GG} {all A : HV} {ps : List (Nat × GM)} {o : Option DD} (h : GSt b s g G all A ps o) : G.l.length = ps.length := by rw [h.l, List.length_map]
theorem GSt.nil {b s : HS} {g : Nat} {G : GG} {all A : HV} {ps : List (Nat × GM)} {o : Option DD} (h : GSt b s g G all A ps o) : G.l = [] ↔ ps = [] := by
  rw [h.l, List.map_eq_nil_iff]
/-- Something new, elsewhere, may be counted to what lies still. -/
theorem GSt.grow {b s : HS} {g : Nat} {G : GG} {all A : HV} {ps : List (Nat × GM)} {o : Option DD} (h : GSt b s g G all A ps o) {k : Nat} (hk : s k = none) (ob : HObj) : GSt (b.set k ob) (s.set k ob) g G all A ps o := by
  have hne : ∀ j o', s j = some o' → j ≠ k := fun j o' hj e => by rw [e, hk] at hj; cases hj
  refine ⟨le_setBoth h.le k ob, by rw [set_ne _ _ (hne _ _ h.at_)]; exact h.free, by rw [set_ne _ _ (hne _ _ h.at_)]; exact h.at_, ?_, h.accg, fun p hp => ?_, h.nodup, h.l, h.sh⟩
  · rcases h.acc with h1 | ⟨q, f, r, k', h1, h2, h3, h4⟩
    · exact .inl h1
    · exact .inr ⟨q, f, r, k', by rw [set_ne _ _ (hne _ _ h3)]; exact h1, h2, by rw [set_ne _ _ (hne _ _ h3)]; exact h3, h4⟩
  · obtain ⟨h1, h2, h3⟩ := h.mem p hp
    exact ⟨by rw [set_ne _ _ (hne _ _ h2)]; exact h1, by rw [set_ne _ _ (hne _ _ h2)]; exact h2, h3⟩
theorem store1 {s : HS} {g k n : Nat} {cs : List HV} {v : HV} {K : HS → Prop} (hg : s g = some (.cells cs)) (hk : k < cs.length) (hv : hcells v = some [v]) (ho : hone v = true) (hn : n = 1) (hK : K (s.set g (.cells (cs.set k v)))) : hStore s (.ptr g k) v n K := by
  subst hn
  simp only [hStore, hv, hg]
  refine ⟨rfl, hk, fun x hx => by rw [List.mem_singleton.1 hx]; exact ho, ?_⟩
  have e : putCells cs k [v] = cs.set k v := by
    unfold putCells
    rw [List.set_eq_take_append_cons_drop, if_pos hk]
    simp
  rw [e]
  exact hK
/-- The group's own fields are written. -/
theorem GSt.putG {b s : HS} {g : Nat} {G : GG} {all A : HV} {ps : List (Nat × GM)} {o : Option DD} (h : GSt b s g G all A ps o) (G' : GG) (all' : HV) (o' : Option DD) (hl : G'.l = G.l) (ho : o'.getD [] = G'.shares) : GSt b (s.set g (.cells (gC G' all' A o'))) g G' all' A ps o' :=
  ⟨le_set_free _ h.le h.free, h.free, set_at _ _ _, h.acc.put _ h.accg, h.accg, fun p hp => let ⟨h1, h2, h3, h4⟩ := h.mem p hp; ⟨h1, by rw [set_ne _ _ h3]; exact h2, h3, h4⟩, h.nodup, by rw [hl]; exact h.l, ho⟩
/-- One member is written. -/
theorem GSt.putM {b s : HS} {g : Nat} {G : GG} {all A : HV} {ps : List (Nat × GM)} {o : Option DD} (h : GSt b s g G all A ps o) {i : Nat} (hi : i < ps.length) (m : GM) (G' : GG) (hG : G' = { G with l := (ps.set i ((ps.getD i p0).1, m)).map Prod.snd }) :
    GSt b (s.set (ps.getD i p0).1 (.cells (gmC m))) g G' all A (ps.set i ((ps.getD i p0).1, m)) o := by
  subst hG
  have hg := getD_get p0 ps hi
  have hm := h.mem _ (getD_memD p0 hi)
  have hfst : (ps.set i ((ps.getD i p0).1, m)).map Prod.fst = ps.map Prod.fst := by
    rw [List.map_set]
    have : (ps.getD i p0).1 = (ps.map Prod.fst)[i]'(by simpa using hi) := by rw [hg]; simp
    rw [this, List.set_getElem_self]
  have hrow : rows pC (ps.set i ((ps.getD i p0).1, m)) = rows pC ps := by
    have e : ∀ l : List (Nat × GM), rows pC l = (l.map Prod.fst).map fun k => HV.ptr k 0 := fun l => by
      induction l with
      | nil => rfl
      | cons x r ih => rw [rows_cons, ih]; rfl
    rw [e, e, hfst]
  refine ⟨le_set_free _ h.le hm.1, h.free, by rw [set_ne _ _ (Ne.symm hm.2.2.1)]; exact h.at_, ?_, h.accg, fun p hp => ?_, by rw [hfst]; exact h.nodup, rfl, h.sh⟩
  · rw [List.length_set, hrow]
    exact h.acc.put _ hm.2.2.2
  · obtain ⟨j, hj, rfl⟩ := List.mem_iff_getElem.1 hp
    rw [List.length_set] at hj
    rw [List.getElem_set]
    split
    · exact ⟨hm.1, set_at _ _ _, hm.2.2⟩
    · rename_i hij
      obtain ⟨k1, k2, k3⟩ := h.mem _ (List.getElem_mem hj)
      refine ⟨k1, ?_, k3⟩
      rw [set_ne]
      · exact k2
      · have hgi : (ps.getD i p0).1 = ps[i].1 := by rw [hg]
        intro e0
        have e := e0.trans hgi
        have hnd := h.nodup
        unfold List.Nodup at hnd
        rw [List.pairwise_map, List.pairwise_iff_getElem] at hnd
        rcases Nat.lt_or_ge i j with h' | h'
        · exact hnd i j hi hj h' e.symm
        · exact hnd j i hj hi (by omega) e
/-- Small enough. -/
structure Bd (K : Nat) (G : GG) : Prop where
  now : 0 ≤ G.now ∧ G.now ≤ 1125899906842624
  since : 0 ≤ G.since ∧ G.since ≤ 1125899906842624
  mem : ∀ m ∈ G.l, 0 ≤ m.heard ∧ m.heard ≤ 1125899906842624 ∧ m.tp.length ≤ 1000000
  gen : 0 ≤ G.gen ∧ G.gen ≤ 2199023255552 + K
  len : G.l.length ≤ K
  all : G.all.length ≤ 1000
  sh : G.shares.length ≤ 1000000 ∧ ∀ d ∈ G.shares, d.2.length ≤ 1000000
  k : K ≤ 1000000
theorem hvNil (p o : Nat) : vNil (.ptr p o) = some (.ptr p o) := rfl
theorem hvFld (k p : Nat) : vField k (.ptr p 0) = some (.ptr p k) := by simp [vField]
section
variable {b s : HS} {g : Nat} {G : GG} {all A : HV} {ps : List (Nat × GM)} {o : Option DD}
theorem GSt.ld (h : GSt b s g G all A ps o) (k : Nat) : vLoad s (.ptr g k) 1 false = (gC G all A o)[k]? := load_cell k 1 h.at_
theorem GSt.ldm (h : GSt b s g G all A ps o) {p : Nat × GM} (hp : p ∈ ps) (k : Nat) : vLoad s (.ptr p.1 k) 1 false = (gmC p.2)[k]? := load_cell k 1 (h.mem p hp).2.1
theorem over50 (h : GSt b s g G all A ps o) {K : Nat} (hb : Bd K G) : HC Tryd.prog 50 [.ptr g 0] s (fun v t => t = s ∧ v = .lit (.bool G.over)) := by
  refine HC50 ?_
  unfold c50
  have h1 := hb.now
  have h2 := hb.since
  simp only [hvNil, hvFld, bindO, h.ld, gC, List.getElem?_cons_succ, List.getElem?_cons_zero]
  rw [sub_n (by omega) (by omega)]
  simp only [geq_n]
  exact ⟨trivial, rfl⟩
theorem enter36 (h : GSt b s g G all A ps o) (st : Int) : HC Tryd.prog 36 [.ptr g 0, .lit (.int .i64 st)] s (fun v t => GSt b t g (G.enter st) all A ps o ∧ t = s.set g (.cells (gC (G.enter st) all A o))) := by
  refine HC36 ?_
  unfold c36
  simp only [hvNil, hvFld, bindO, h.ld, gC, List.getElem?_cons_succ, List.getElem?_cons_zero]
  refine store1 h.at_ (by simp [gC]) (hc_int _ _) (ho_int _ _) rfl ?_
  refine store1 (set_at _ _ _) (by simp [gC]) (hc_int _ _) (ho_int _ _) rfl ?_
  rw [set_set]
  exact ⟨h.putG (G.enter st) all o rfl h.sh, rfl⟩
/-- slices.IndexFunc over members. -/
theorem idx46 (hA : AccX b s 1 A ps.length (rows pC ps)) (hl : ps.length ≤ 1000000) (p : Nat × GM → Bool) {a1 : HV} (hp : ∀ x ∈ ps, ∀ K : HV → HS → Prop, K (.lit (.bool (p x))) s → hcall Tryd.prog a1 [.ptr x.1 0] s K) :
    HC Tryd.prog 46 [A, a1] s (fun v t => t = s ∧ v = .lit (.int .i64 (idxI p ps))) := by
  refine HC46 ?_
  unfold c46
  rw [show vLenT (Tryd.prog.underlying 66) s A = some (.lit (.int .i64 (ps.length : Int))) from hA.len _ _]
  simp only [bindO]
  refine HLoop.ghost (σ := Nat) (fun i => [.lit (.int .i64 (i : Int))]) (fun i t => i ≤ ps.length ∧ t = s ∧ ∀ x ∈ ps.take i, p x = false) (fun i => ps.length - i) 0 rfl ⟨Nat.zero_le _, rfl, by simp⟩ ?_
  rintro i t K ⟨hi, rfl, ht⟩ hK
  simp only [List.headD_cons, lss_i]
  by_cases hlt : i < ps.length
  · obtain ⟨q, -, x1, -, x2⟩ := hA.at_ pC_len p0 .i64 hlt
    have x3 := x2 0 (by omega) 1
    rw [Nat.add_zero] at x3
    simp only [hlt, decide_true, hcond, x1, x3]
    have hm := getD_memD p0 hlt
    have hg := getD_get p0 ps hlt
    have htk := take_succ' p0 ps hlt
    simp only [pC, List.getElem?_cons_zero]
    refine hp _ hm _ ?_
    cases hpx : p (ps.getD i p0) with
    | true =>
      simp only
      refine ⟨trivial, ?_⟩
      rw [idxI_at hlt ht (by rw [← hg]; exact hpx)]
    | false =>
      simp only [inc_i hlt (by omega)]
      refine hK (i + 1) _ _ rfl ⟨hlt, rfl, fun x hx => ?_⟩ (by omega)
      rw [htk] at hx
      rcases List.mem_append.1 hx with hx | hx
      · exact ht x hx
      · rw [List.mem_singleton.1 hx]; exact hpx
  · obtain rfl : i = ps.length := by omega
    rw [List.take_length] at ht
    simp only [hlt, decide_false, hcond]
    rw [idxI_none ht]
    exact ⟨by trivial, by trivial⟩
theorem plain47 : plainFn Tryd.prog 47 = true := by unfold plainFn; rw [Tryd.func47]; rfl
theorem plain55 : plainFn Tryd.prog 55 = true := by unfold plainFn; rw [Tryd.func55]; rfl
def ptrAt (ps : List (Nat × GM)) : Option Nat → HV
  | some i => .ptr (ps.getD i p0).1 0
  | none => .lit (.pointer none)
def GG.at_ (G : GG) (id : By) : Option Nat := G.l.findIdx? fun m => decide (m.id = id)
theorem GSt.idx (h : GSt b s g G all A ps o) (id : By) : G.at_ id = ps.findIdx? fun p => decide (p.2.id = id) := by
  unfold GG.at_
  rw [h.l, List.findIdx?_map]
  rfl
theorem find27 (h : GSt b s g G all A ps o) (hl : ps.length ≤ 1000000) (id : By) : HC Tryd.prog 27 [.ptr g 0, strV id] s (fun v t => t = s ∧ v = ptrAt ps (G.at_ id)) := by
  refine HC.weaken (HC27 ?_)
  unfold c27
  refine hbox_intro (hc_string _) fun x1 hx1 => ?_
  have hle := le_set_new (.cells [strV id]) (le_refl' s) hx1
  have e1 := set_at s x1 (.cells [strV id])
  have h1 := h.mono hle
  change HS.le s (s.set x1 (.cells [HV.lit (.string ⟨id.toArray⟩)])) at hle
  change (s.set x1 (.cells [HV.lit (.string ⟨id.toArray⟩)])) x1 = some (.cells [strV id]) at e1
  change GSt b (s.set x1 (.cells [HV.lit (.string ⟨id.toArray⟩)])) g G all A ps o at h1
  generalize s.set x1 (.cells [HV.lit (.string ⟨id.toArray⟩)]) = s1 at *
  simp only [hvNil, hvFld, bindO, h1.ld, gC, List.getElem?_cons_succ, List.getElem?_cons_zero]
  rw [h.idx id]
  refine (idx46 h1.acc hl (fun p => decide (p.2.id = id)) (fun x hx K hK => ?_)).mono ?_
  · simp only [hcall, hite_eq, plain47, if_true, List.cons_append, List.nil_append]
    refine HC47 ?_
    unfold c47
    simp only [hvNil, hvFld, bindO, h1.ldm hx, gmC, List.getElem?_cons_zero]
    rw [show vLoad s1 (.ptr x1 0) 1 false = some (strV id) from load_cell 0 1 e1]
    simp only [eql_s]
    exact hK
  · rintro v t ⟨rfl, rfl⟩
    simp only [lss_n]
    cases hf : ps.findIdx? fun p : Nat × GM => decide (p.2.id = id) with
    | none =>
      have : idxI (fun p : Nat × GM => decide (p.2.id = id)) ps = -1 := by simp [idxI, hf]
      rw [this]
      exact ⟨s, hle, rfl, rfl⟩
    | some i =>
      have : idxI (fun p : Nat × GM => decide (p.2.id = id)) ps = (i : Int) := by simp [idxI, hf]
      have hi : i < ps.length := (List.findIdx?_eq_some_iff_getElem.1 hf).1
      rw [this, show decide (((i : Nat) : Int) < 0) = false from by simp]
      obtain ⟨q, -, x1', -, x2⟩ := h1.acc.at_ pC_len p0 .i64 hi
      have x3 := x2 0 (by omega) 1
      rw [Nat.add_zero] at x3
      simp only [hcond, h1.ld, gC, List.getElem?_cons_succ, List.getElem?_cons_zero, x1', x3, pC]
      exact ⟨s, hle, rfl, rfl⟩
/-- Whether something holds of all members. -/
theorem each34 (h : GSt b s g G all A ps o) (hl : ps.length ≤ 1000000) (f : GM → Bool) {fn : Nat} {fcaps : List HV} (hf : ∀ t, HS.le s t → ∀ x ∈ ps, ∀ K : HV → HS → Prop, K (.lit (.bool (f x.2))) t → hcall Tryd.prog (.func (.func fn) fcaps) [.ptr x.1 0] t K) :
    HC Tryd.prog 34 [.ptr g 0, .func (.func fn) fcaps] s (fun v t => t = s ∧ v = .lit (.bool (G.l.all f))) := by
  refine HC.weaken (HC34 ?_)
  unfold c34
  refine hbox_intro (hc_func _ _) fun x1 hx1 => ?_
  have hle := le_set_new (.cells [.func (.func fn) fcaps]) (le_refl' s) hx1
  have e1 := set_at s x1 (.cells [.func (.func fn) fcaps])
  have h1 := h.mono hle
  generalize s.set x1 (.cells [.func (.func fn) fcaps]) = s1 at *
  simp only [hvNil, hvFld, bindO, h1.ld, gC, List.getElem?_cons_succ, List.getElem?_cons_zero]
  refine HC.mono (Q := fun v t => t = s1 ∧ v = .lit (.bool (ps.any fun x => !f x.2))) ?_ ?_
  · refine HC54 ?_
    unfold c54
    refine (idx46 h1.acc hl (fun p => !f p.2) (fun x hx K hK => ?_)).mono ?_
    · simp only [hcall, hite_eq, plain55, if_true, List.cons_append, List.nil_append]
      refine HC55 ?_
      unfold c55
      rw [show vLoad s1 (.ptr x1 0) 1 false = some (.func (.func fn) fcaps) from load_cell 0 1 e1]
      simp only [bindO]
      exact hf s1 hle x hx _ hK
    · rintro v t ⟨rfl, rfl⟩
      simp only [geq_n, bindO]
      refine ⟨trivial, ?_⟩
      congr 2
      rcases idxI_cases (fun p : Nat × GM => !f p.2) ps with ⟨k1, k2⟩ | ⟨i, k1, k2, k3, k4⟩
      · rw [k1, List.any_eq_false.2 fun x hx => by rw [k2 x hx]; simp]; rfl
      · rw [k2, List.any_eq_true.2 ⟨_, List.getElem_mem k1, k3⟩]; simp
  · rintro v t ⟨rfl, rfl⟩
    simp only [vUn, bindO]
    refine ⟨s, hle, rfl, ?_⟩
    congr 2
    rw [h.l, Bool.eq_iff_iff]
    simp
/-- slices.DeleteFunc over members. -/
theorem del58 (hA : AccX b s 1 A ps.length (rows pC ps)) (hle : HS.le b s) (hl : ps.length ≤ 1000000) (p : Nat × GM → Bool) {a1 : HV} (hp : ∀ t, (∀ k ob, accId A ≠ some k → s k = some ob → t k = some ob) → ∀ x ∈ ps, ∀ K : HV → HS → Prop, K (.lit (.bool (p x))) t → hcall Tryd.prog a1 [.ptr x.1 0] t K) :
    HC Tryd.prog 58 [A, a1] s (fun v t => AccX b t 1 v (ps.filter fun x => !p x).length (rows pC (ps.filter fun x => !p x)) ∧ HS.le b t ∧ accId v = accId A ∧ ∀ k ob, accId A ≠ some k → s k = some ob → t k = some ob) := by
  refine HC58 ?_
  unfold c58
  refine (idx46 hA hl p (fun x hx K hK => hp s (fun _ _ _ h => h) x hx K hK)).mono ?_
  rintro v t ⟨rfl, rfl⟩
  simp only [eql_n, bindO]
  rcases idxI_cases p ps with ⟨hi, hall⟩ | ⟨i0, hi0, hi, hpi, hbef⟩
  · rw [hi]
    simp only [decide_true, hcond]
    have e1 : (ps.filter fun x => !p x) = ps := List.filter_eq_self.2 fun x hx => by simp [hall x hx]
    rw [e1]
    exact ⟨hA, hle, trivial, fun _ _ _ h => h⟩
  · rw [hi]
    rw [show decide (((i0 : Nat) : Int) = -1) = false from by rw [decide_eq_false_iff_not]; omega]
    simp only [hcond, inc_i hi0 (by omega)]
    rcases hA with ⟨-, -, h0⟩ | ⟨q, f, rest, k0, h1, rfl, h3, h4, h5⟩
    · omega
    have hst : (ps.take (i0 + 1)).filter (fun x => !p x) = ps.take i0 := by
      rw [take_succ' p0 ps hi0, getD_get p0 ps hi0, List.filter_append, List.filter_eq_self.2 fun x hx => by simp [hbef x hx]]
      simp [hpi]
    have lenq : ∀ u, vLenT (Tryd.prog.underlying 66) u (.view q 0 1 ps.length f) = some (.lit (.int .i64 (ps.length : Int))) := fun u => rfl
    simp only [lenq]
    refine HLoop.ghost (σ := Nat × Nat × List (Nat × GM)) (fun G => [.lit (.int .i64 (G.1 : Int)), .lit (.int .i64 (G.2.1 : Int))])
      (fun G u => G.1 < G.2.1 ∧ G.2.1 ≤ ps.length ∧ G.2.2.length = ps.length ∧ G.2.2.take G.1 = (ps.take G.2.1).filter (fun x => !p x) ∧ G.2.2.drop G.2.1 = ps.drop G.2.1 ∧ u q = some (.cells (rows pC G.2.2 ++ rest)) ∧ HS.le (t.del q) u)
      (fun G => ps.length - G.2.1) (i0, i0 + 1, ps) rfl ⟨Nat.lt_succ_self _, hi0, rfl, hst.symm, rfl, h3, le_del t q⟩ ?_
    rintro ⟨i, j, M⟩ u K ⟨g1, g2, g3, g4, g5, g6, g7⟩ hK
    simp only at g1 g2 g3 g4 g5 g6 g7
    simp only [List.headD_cons, List.tail_cons, lss_i]
    have hsq : (t.del q) q = none := del_at t q
    have hkeep : ∀ u', HS.le (t.del q) u' → ∀ k ob, accId (.view q 0 1 ps.length f) ≠ some k → t k = some ob → u' k = some ob := fun u' hu k ob hk ht => hu k ob (by rw [del_ne _ (fun e => hk (by rw [e]; rfl))]; exact ht)
    by_cases hlt : j < ps.length
    · have hjM : j < M.length := by omega
      have hMj : M.getD j p0 = ps[j] := by
        rw [drop_cons' p0 M hjM, drop_cons' p0 ps hlt, getD_get p0 ps hlt] at g5
        exact (List.cons.inj g5).1
      have hdr : M.drop (j + 1) = ps.drop (j + 1) := by
        rw [drop_cons' p0 M hjM, drop_cons' p0 ps hlt] at g5
        exact (List.cons.inj g5).2
      have htk := take_succ' p0 ps hlt
      rw [getD_get p0 ps hlt] at htk
      have hmem : ps[j] ∈ ps := List.getElem_mem hlt
      have lj := load_rows1 pC_len p0 g6 hjM (j := 0) (n := 1) (by omega)
      rw [Nat.add_zero, hMj] at lj
      generalize ps[j] = x at *
      simp only [hlt, decide_true, idx_view _ hlt, Nat.zero_add, lj, pC, List.getElem?_cons_zero]
      refine Join.of (fun xs t' => ∃ i' M', xs = [.lit (.int .i64 ((i' : Nat) : Int))] ∧ i' < j + 1 ∧ M'.length = ps.length ∧ M'.take i' = (ps.take (j + 1)).filter (fun x => !p x) ∧ M'.drop (j + 1) = ps.drop (j + 1) ∧ t' q = some (.cells (rows pC M' ++ rest)) ∧ HS.le (t.del q) t') ?_ ?_
      · rintro xs t' ⟨i', M', rfl, k1, k2, k3, k4, k5, k6⟩
        simp only [List.headD_cons, inc_i hlt (by omega)]
        exact hK (i', j + 1, M') _ _ rfl ⟨k1, hlt, k2, k3, k4, k5, k6⟩ (by show ps.length - (j + 1) < ps.length - j; omega)
      · intro K10 hK10
        refine hp u (hkeep u g7) x hmem _ ?_
        cases hpx : p x with
        | true =>
          simp only [vUn, Bool.not_true]
          exact hK10 _ _ ⟨i, M, rfl, by omega, g3, by rw [htk, List.filter_append, g4]; simp [hpx], hdr, g6, g7⟩
        | false =>
          simp only [vUn, Bool.not_false, idx_view _ (show i < ps.length by omega), Nat.zero_add, Nat.mul_one]
          have hput := put_rows pC_len x rest M i (by omega)
          simp only [hStore, hc_ptr, g6]
          refine ⟨by trivial, by rw [List.length_append, rows_len pC_len]; omega, fun y hy => by rw [List.mem_singleton.1 hy]; rfl, ?_⟩
          rw [Nat.mul_one] at hput
          rw [show [HV.ptr x.1 0] = pC x from rfl, hput]
          simp only [inc_i (show i < ps.length by omega) (by omega)]
          refine hK10 _ _ ⟨i + 1, M.set i x, rfl, by omega, by rw [List.length_set]; exact g3, ?_, ?_, set_at _ _ _, le_set_free _ g7 hsq⟩
          · rw [take_succ' p0 (M.set i x) (by rw [List.length_set]; omega), getD_get p0 _ (by rw [List.length_set]; omega), List.getElem_set_self, List.take_set_of_le (Nat.le_refl _), g4, htk, List.filter_append]
            simp [hpx]
          · rw [List.drop_set_of_lt (by omega)]
            exact hdr
    · obtain rfl : j = ps.length := by omega
      rw [List.take_length] at g4
      have hi2 : i = (ps.filter fun x => !p x).length := by rw [← g4, List.length_take]; omega
      simp only [hlt, decide_false, slice_view_lo _ (show i ≤ ps.length by omega), slice_view_hi _ (show i ≤ ps.length by omega)]
      have hct := fun (K : HS → Prop) hK => clear_tail (K := K) (enc := pC) (z := .pointer none) (q := q) (l := M) (rest := rest) (i := i) (f := f) (s := u) pC_len (by omega) rfl g6 (by omega) hK
      rw [g3] at hct
      refine hct _ fun rest' => ?_
      rw [g4]
      have hb : HS.le b (t.del q) := fun k ob hk => by
        rw [del_ne _ (fun e => by rw [e, h1] at hk; cases hk)]
        exact hle k ob hk
      refine ⟨.inr ⟨q, f && i == ps.length, rest', rest'.length, h1, by rw [← hi2], set_at _ _ _, by rw [rows_len pC_len], by omega⟩, ?_, rfl, fun k ob hk ht => ?_⟩
      · exact le_set_free _ (HS.le.trans hb g7) h1
      · have hkq : k ≠ q := fun e => hk (by rw [e]; rfl)
        rw [set_ne _ _ hkq]
        exact hkeep u g7 k ob hk ht
end
end Go.Proofs.YtkcgokkgefgcjaaDoor.AS
end
section
namespace Go.Proofs.YtkcgokkgefgcjaaDoor.AS
open Go.Proofs.YtkcgokkgefgcjaaDoor.H Go.Proofs.YtkcgokkgefgcjaaDoor.G0
set_option linter.unusedVariables false
set_option linter.unusedSimpArgs false
set_option maxRecDepth 100000
section
variable {b s : HS} {g : Nat} {G : GG} {all A : HV} {ps : List (Nat × GM)} {o : Option DD}
theorem GSt.base {b' : HS} (h : GSt b s g G all A ps o) (hle : HS.le b' b) : GSt b' s g G all A ps o :=
  ⟨HS.le.trans hle h.le, none_of_le hle h.free, h.at_, h.acc.base hle, h.accg, fun p hp => let ⟨h1, h2⟩ := h.mem p hp; ⟨none_of_le hle h1, h2⟩, h.nodup, h.l, h.sh⟩
theorem GSt.keep {t : HS} (h : GSt b s g G all A ps o) (hb : HS.le b t) (hk : ∀ k ob, (k = g ∨ accId A = some k ∨ ∃ p ∈ ps, p.1 = k) → s k = some ob → t k = some ob) : GSt b t g G all A ps o :=
  ⟨hb, h.free, hk _ _ (.inl rfl) h.at_, h.acc.keep fun q ob hq => hk q ob (.inr (.inl hq)), h.accg, fun p hp => let ⟨h1, h2, h3⟩ := h.mem p hp; ⟨h1, hk _ _ (.inr (.inr ⟨p, hp, rfl⟩)) h2, h3⟩, h.nodup, h.l, h.sh⟩
theorem any_len (p : GM → Bool) (l : List GM) : ((l.filter fun x => !p x).length < l.length) ↔ l.any p = true := by
  induction l with
  | nil => simp
  | cons x l ih =>
    have := List.length_filter_le (fun x => !p x) l
    rw [List.filter_cons, List.any_cons]
    cases p x
    · simp only [Bool.not_false, if_true, List.length_cons, Nat.add_lt_add_iff_right, Bool.false_or]; exact ih
    · simp; omega
theorem outs41 (h : GSt b s g G all A ps o) (hl : ps.length ≤ 1000000) (f : GM → Bool) {fn : Nat} {fcaps : List HV}
    (hf : ∀ t, (∀ k ob, accId A ≠ some k → s k = some ob → t k = some ob) → ∀ x ∈ ps, ∀ K : HV → HS → Prop, K (.lit (.bool (f x.2))) t → hcall Tryd.prog (.func (.func fn) fcaps) [.ptr x.1 0] t K) :
    HC Tryd.prog 41 [.ptr g 0, .func (.func fn) fcaps] s (fun v t => v = .lit (.bool (G.any f)) ∧ ∃ A', GSt b t g (G.outs f) all A' (ps.filter fun x => !f x.2) o) := by
  refine HC41 ?_
  unfold c41
  simp only [hvNil, hvFld, bindO, h.ld, gC, List.getElem?_cons_succ, List.getElem?_cons_zero]
  rw [show vLenT (Tryd.prog.underlying 66) s A = some (.lit (.int .i64 (ps.length : Int))) from h.acc.len _ _]
  simp only
  refine (del58 h.acc h.le hl (fun x => f x.2) hf).mono ?_
  rintro v t ⟨g1, g2, g3, g4⟩
  have ag : t g = some (.cells (gC G all A o)) := g4 _ _ h.accg h.at_
  have hGst : GSt b (t.set g (.cells (gC (G.outs f) all v o))) g (G.outs f) all v (ps.filter fun x => !f x.2) o := by
    refine ⟨le_set_free _ g2 h.free, h.free, set_at _ _ _, g1.put _ (by rw [g3]; exact h.accg), by rw [g3]; exact h.accg, fun p hp => ?_, ?_, ?_, h.sh⟩
    · obtain ⟨h1, h2, h3, h4⟩ := h.mem p (List.mem_filter.1 hp).1
      exact ⟨h1, by rw [set_ne _ _ h3]; exact g4 _ _ h4 h2, h3, by rw [g3]; exact h4⟩
    · exact h.nodup.sublist ((List.filter_sublist (p := fun x : Nat × GM => !f x.2) (l := ps)).map Prod.fst)
    · show G.l.filter _ = _
      rw [h.l, List.filter_map]
      rfl
  refine store1 ag (by simp [gC]) g1.hc g1.one rfl ?_
  rw [show (gC G all A o).set 9 v = gC (G.outs f) all v o from rfl]
  generalize t.set g (.cells (gC (G.outs f) all v o)) = u at hGst ⊢
  simp only [hGst.ld, gC, List.getElem?_cons_succ, List.getElem?_cons_zero]
  rw [show vLenT (Tryd.prog.underlying 66) u v = some (.lit (.int .i64 (((ps.filter fun x => !f x.2).length : Nat) : Int))) from g1.len _ _]
  simp only [lss_i]
  refine ⟨?_, v, hGst⟩
  congr 2
  have e := any_len f G.l
  rw [h.l, List.filter_map, List.length_map, List.length_map] at e
  rw [Bool.eq_iff_iff, decide_eq_true_eq]
  unfold GG.any
  rw [h.l]
  exact e
/-- The first i members are changed. -/
def mapT (f : GM → GM) (i : Nat) (ps : List (Nat × GM)) : List (Nat × GM) := (ps.take i).map (fun p => (p.1, f p.2)) ++ ps.drop i
theorem mapT_len (f : GM → GM) (i : Nat) (ps : List (Nat × GM)) : (mapT f i ps).length = ps.length := by
  simp [mapT]; omega
theorem mapT_at (f : GM → GM) {i : Nat} (ps : List (Nat × GM)) (hi : i < ps.length) : (mapT f i ps).getD i p0 = ps.getD i p0 := by
  unfold mapT
  rw [List.getD, List.getElem?_append_right (by simp; omega)]
  simp only [List.length_map, List.length_take, Nat.min_eq_left (Nat.le_of_lt hi), Nat.sub_self, List.getElem?_drop, Nat.add_zero]
  rfl
theorem mapT_succ (f : GM → GM) {i : Nat} (ps : List (Nat × GM)) (hi : i < ps.length) : mapT f (i + 1) ps = (mapT f i ps).set i ((ps.getD i p0).1, f (ps.getD i p0).2) := by
  unfold mapT
  rw [take_succ' p0 ps hi, List.map_append, List.set_append_right _ _ (by simp; omega)]
  simp only [List.length_map, List.length_take, Nat.min_eq_left (Nat.le_of_lt hi), Nat.sub_self]
  rw [drop_cons' p0 ps hi, List.set_cons_zero, List.append_assoc]
  rfl
theorem mapT_all (f : GM → GM) (ps : List (Nat × GM)) : mapT f ps.length ps = ps.map fun p => (p.1, f p.2) := by simp [mapT]
theorem mapT_zero (f : GM → GM) (ps : List (Nat × GM)) : mapT f 0 ps = ps := by simp [mapT]
theorem mapT_fst (f : GM → GM) (i : Nat) (ps : List (Nat × GM)) : (mapT f i ps).map Prod.fst = ps.map Prod.fst := by
  conv => rhs; rw [← List.take_append_drop i ps]
  simp [mapT, List.map_append, Function.comp_def]
theorem neq_i3 (a c : Int) : vCmp (Tryd.prog.underlying 3) .neq (.lit (.int .i64 a)) (.lit (.int .i64 c)) = some (.lit (.bool (!decide (a = c)))) := by
  simp only [vCmp, vBin, if_true, Option.some.injEq, HV.lit.injEq, Value.bool.injEq, bne]
  congr 1
theorem prepares31 (h : GSt b s g G all A ps o) (hl : ps.length ≤ 1000000) : HC Tryd.prog 31 [.ptr g 0] s (fun v t => ∃ ps', GSt b t g G.prepares all A ps' o ∧ ps'.map Prod.fst = ps.map Prod.fst) := by
  refine HC31 ?_
  unfold c31
  simp only [hvNil, hvFld, bindO, h.ld, gC, List.getElem?_cons_succ, List.getElem?_cons_zero]
  rw [show vLenT (Tryd.prog.underlying 66) s A = some (.lit (.int .i64 (ps.length : Int))) from h.acc.len _ _]
  simp only [eql_n]
  by_cases hn : ps = []
  · subst hn
    rw [show decide (((([] : List (Nat × GM)).length : Nat) : Int) = 0) = true from rfl]
    simp only [hcond]
    refine (enter36 h 1).mono ?_
    rintro v t ⟨h1, -⟩
    refine ⟨[], ?_, rfl⟩
    have : G.prepares = G.enter 1 := by unfold GG.prepares; rw [if_pos (h.nil.2 rfl)]
    rw [this]
    exact h1
  · have hpos : 0 < ps.length := List.length_pos_iff.2 hn
    rw [show decide (((ps.length : Nat) : Int) = 0) = false from by rw [decide_eq_false_iff_not]; omega]
    simp only [hcond]
    refine (enter36 h 2).mono ?_
    rintro v t ⟨h1, -⟩
    have hA : ∀ u, vLenT (Tryd.prog.underlying 66) u A = some (.lit (.int .i64 (ps.length : Int))) := fun u => h.acc.len _ _
    simp only [h1.ld, gC, List.getElem?_cons_succ, List.getElem?_cons_zero, hA]
    refine HLoop.ghost (σ := Nat) (fun i => [.lit (.int .i64 (i : Int))]) (fun i u => i ≤ ps.length ∧ GSt b u g { G.enter 2 with l := (mapT (fun m => { m with joined := false }) i ps).map Prod.snd } all A (mapT (fun m => { m with joined := false }) i ps) o) (fun i => ps.length - i) 0 rfl ⟨Nat.zero_le _, ?_⟩ ?_
    · rw [mapT_zero]
      have := h1.l
      change G.l = _ at this
      show GSt b t g { G.enter 2 with l := ps.map Prod.snd } all A ps o
      rw [← this]
      exact h1
    rintro i u K ⟨hi, hu⟩ hK
    simp only [List.headD_cons, lss_i]
    by_cases hlt : i < ps.length
    · have hlt' : i < (mapT (fun m => { m with joined := false }) i ps).length := by rw [mapT_len]; exact hlt
      obtain ⟨q, -, x1, -, x2⟩ := hu.acc.at_ pC_len p0 .i64 hlt'
      have x3 := x2 0 (by omega) 1
      rw [Nat.add_zero] at x3
      have hpu := fun m G' hG => hu.putM hlt' m G' hG
      have hm := getD_memD p0 hlt'
      rw [mapT_at _ _ hlt] at x3 hpu hm
      simp only [hlt, decide_true, x1, x3, pC, List.getElem?_cons_zero, hvNil, hvFld]
      refine store1 (hu.mem _ hm).2.1 (by simp [gmC]) (hc_bool _) (ho_bool _) rfl ?_
      simp only [inc_i hlt (by omega)]
      refine hK (i + 1) _ _ rfl ⟨hlt, ?_⟩ (by omega)
      rw [mapT_succ _ _ hlt]
      exact hpu { (ps.getD i p0).2 with joined := false } _ rfl
    · obtain rfl : i = ps.length := by omega
      simp only [hlt, decide_false]
      refine ⟨mapT (fun m => { m with joined := false }) ps.length ps, ?_, mapT_fst _ _ _⟩
      have e : G.prepares = { G.enter 2 with l := (mapT (fun m => { m with joined := false }) ps.length ps).map Prod.snd } := by
        unfold GG.prepares
        rw [if_neg (fun hh => hn (h.nil.1 hh)), mapT_all, h.l]
        simp [List.map_map, Function.comp_def]
      rw [e]
      exact hu
theorem plain49 : plainFn Tryd.prog 49 = true := by unfold plainFn; rw [Tryd.func49]; rfl
theorem plain51 : plainFn Tryd.prog 51 = true := by unfold plainFn; rw [Tryd.func51]; rfl
theorem plain56 : plainFn Tryd.prog 56 = true := by unfold plainFn; rw [Tryd.func56]; rfl
theorem plain57 : plainFn Tryd.prog 57 = true := by unfold plainFn; rw [Tryd.func57]; rfl
/-- Who has joined is there still. -/
def Kp (ps ps' : List (Nat × GM)) : Prop := ∀ p ∈ ps, p.2.joined = true → ∃ p' ∈ ps', p'.1 = p.1 ∧ p'.2.id = p.2.id
theorem forms32 (h : GSt b s g G all A ps o) (hall : RowV b 2 all G.all.length (rows topC G.all)) {K : Nat} (hb : Bd K G) : HC Tryd.prog 32 [.ptr g 0] s (fun v t => ∃ A' ps' o', GSt b t g G.forms all A' ps' o' ∧ Kp ps ps') := by
  have hlen : ps.length ≤ 1000000 := by have h1 := hb.len; have h2 := hb.k; rw [h.len] at h1; omega
  refine HC32 ?_
  unfold c32
  simp only [hvNil, hvFld, bindO, h.ld, gC, List.getElem?_cons_succ, List.getElem?_cons_zero, neq_i3]
  by_cases hst : G.state = 2
  case neg =>
    simp only [hst, decide_false, Bool.not_false, hcond]
    refine ⟨A, ps, o, ?_, fun p hp _ => ⟨p, hp, rfl, rfl⟩⟩
    have : G.forms = G := by unfold GG.forms; rw [if_neg (fun hh => hst hh.1)]
    rw [this]; exact h
  simp only [hst, decide_true, Bool.not_true, hcond]
  refine Join.of (fun xs t => t = s ∧ xs = [.lit (.bool (!(G.l.all (·.joined) || G.over)))]) ?_ ?_
  rotate_left
  · intro K5 hK5
    refine (each34 h hlen (·.joined) (fn := 49) (fcaps := []) (fun t ht x hx K hK => ?_)).mono ?_
    · have h1 := h.mono ht
      simp only [hcall, hite_eq, plain49, if_true, List.append_nil]
      refine HC49 ?_
      unfold c49
      simp only [hvNil, hvFld, bindO, h1.ldm hx, gmC, List.getElem?_cons_succ, List.getElem?_cons_zero]
      exact hK
    · rintro v t ⟨rfl, rfl⟩
      simp only [vUn]
      cases hj : G.l.all (·.joined) with
      | true =>
        simp only [Bool.not_true]
        exact hK5 _ _ ⟨rfl, by rw [hj]; rfl⟩
      | false =>
        simp only [Bool.not_false]
        refine (over50 h hb).mono ?_
        rintro v t ⟨rfl, rfl⟩
        simp only
        exact hK5 _ _ ⟨rfl, by rw [hj]; rfl⟩
  rintro _ t ⟨rfl, rfl⟩
  simp only [List.headD_cons]
  cases hc : G.l.all (·.joined) || G.over with
  | false =>
    simp only [Bool.not_false]
    refine ⟨A, ps, o, ?_, fun p hp _ => ⟨p, hp, rfl, rfl⟩⟩
    have : G.forms = G := by unfold GG.forms; rw [if_neg (fun hh => by rw [hc] at hh; cases hh.2)]
    rw [this]; exact h
  | true =>
    have hform : G.forms = G.forms1 := by unfold GG.forms; rw [if_pos ⟨hst, hc⟩]
    rw [hform]
    simp only [Bool.not_true]
    refine (outs41 h hlen (fun m => !m.joined) (fn := 51) (fcaps := []) (fun u hu x hx K hK => ?_)).mono ?_
    · obtain ⟨m1, m2, m3, m4⟩ := h.mem x hx
      have e : vLoad u (.ptr x.1 3) 1 false = (gmC x.2)[3]? := load_cell 3 1 (hu _ _ m4 m2)
      simp only [hcall, hite_eq, plain51, if_true, List.append_nil]
      refine HC51 ?_
      unfold c51
      simp only [hvNil, hvFld, bindO, e, gmC, List.getElem?_cons_succ, List.getElem?_cons_zero, vUn]
      exact hK
    · rintro v u ⟨rfl, A1, h1⟩
      have hq1len : (ps.filter fun x => !(!x.2.joined)).length ≤ ps.length := List.length_filter_le _ _
      have hmem1 : ∀ m ∈ (G.outs fun m => !m.joined).l, m ∈ G.l := fun m hm => (List.mem_filter.1 hm).1
      have hf1 : ∀ G1, G1 = (G.outs fun m => !m.joined) → G.forms1 = if G1.l = [] then G1.enter 1 else { G1 with gen := G1.gen + 1, state := 3, since := G1.now, l := G1.l.map fun m => { m with synced := false }, shares := sharesOf G1.round (G1.l.map fun m => (m.id, m.tp)) G1.all } := fun G1 e => by subst e; rfl
      have hb1 : ∀ G1, G1 = (G.outs fun m => !m.joined) → G1.all = G.all ∧ G1.gen = G.gen := fun G1 e => by subst e; exact ⟨rfl, rfl⟩
      obtain ⟨G1, hG1⟩ : ∃ G1, G1 = (G.outs fun m => !m.joined) := ⟨_, rfl⟩
      obtain ⟨ps1, hps1⟩ : ∃ ps1, (ps.filter fun x => !(!x.2.joined)) = ps1 := ⟨_, rfl⟩
      have hf1 := hf1 G1 hG1
      obtain ⟨e_all, e_gen⟩ := hb1 G1 hG1
      rw [← hG1] at h1 hmem1
      rw [hps1] at h1 hq1len
      have hA1 : ∀ w, vLenT (Tryd.prog.underlying 66) w A1 = some (.lit (.int .i64 (ps1.length : Int))) := fun w => h1.acc.len _ _
      simp only [h1.ld, gC, List.getElem?_cons_succ, List.getElem?_cons_zero, hA1, eql_n]
      by_cases hn : ps1 = []
      · subst hn
        rw [show decide (((([] : List (Nat × GM)).length : Nat) : Int) = 0) = true from rfl]
        simp only
        refine (enter36 h1 1).mono ?_
        rintro v t' ⟨h2, -⟩
        rw [hf1, if_pos (h1.nil.2 rfl)]
        refine ⟨_, _, _, h2, fun p hp hj => ?_⟩
        have : p ∈ ps.filter fun x => !(!x.2.joined) := List.mem_filter.2 ⟨hp, by rw [hj]; rfl⟩
        rw [hps1] at this
        cases this
      · have hpos : 0 < ps1.length := List.length_pos_iff.2 hn
        rw [show decide (((ps1.length : Nat) : Int) = 0) = false from by rw [decide_eq_false_iff_not]; omega]
        rw [hf1, if_neg (fun hh => hn (h1.nil.1 hh))]
        have hgb := hb.gen
        have hkb := hb.k
        simp only
        rw [add_n (a := G1.gen) (b := 1) (by omega) (by omega)]
        refine store1 h1.at_ (by simp [gC]) (hc_int _ _) (ho_int _ _) rfl ?_
        have h2 := h1.putG { G1 with gen := G1.gen + 1 } all o rfl h1.sh
        rw [show (gC G1 all A1 o).set 4 (.lit (.int .i64 (G1.gen + 1))) = gC { G1 with gen := G1.gen + 1 } all A1 o from rfl]
        refine (enter36 h2 3).mono ?_
        rintro v t3 ⟨h3, -⟩
        clear h2
        have hall' : RowV b 2 all G1.all.length (rows topC G1.all) := by rw [e_all]; exact hall
        have hal : G1.all.length ≤ 1000 := by rw [e_all]; exact hb.all
        have htpl : ∀ m ∈ G1.l, m.tp.length ≤ 1000000 := fun m hm => (hb.mem m (hmem1 m hm)).2.2
        simp only [h3.ld, gC, List.getElem?_cons_succ, List.getElem?_cons_zero, hA1, GG.enter]
        have hl1 := h1.l
        -- the members, one by one
        refine HLoop.ghost (σ := HV × Nat) (fun g => [g.1, .lit (.int .i64 (g.2 : Int))]) (fun i w => i.2 ≤ ps1.length ∧ GSt b w g { ({ G1 with gen := G1.gen + 1 } : GG).enter 3 with l := (mapT (fun m => { m with synced := false }) i.2 ps1).map Prod.snd } all A1 (mapT (fun m => { m with synced := false }) i.2 ps1) o ∧
          Acc b w 2 i.1 i.2 (rows memC ((ps1.take i.2).map fun p => (⟨p.2.id, some p.2.tp⟩ : Mem))) ∧ (∀ k, (k = g ∨ accId A1 = some k ∨ ∃ p ∈ ps1, p.1 = k) → accId i.1 ≠ some k)) (fun i => ps1.length - i.2) (nilV, 0) rfl ⟨Nat.zero_le _, ?_, Acc.nil _ _ _, (fun k _ => by rintro ⟨⟩)⟩ ?_
        · show GSt b t3 g { ({ G1 with gen := G1.gen + 1 } : GG).enter 3 with l := (mapT _ 0 ps1).map Prod.snd } all A1 (mapT _ 0 ps1) o
          rw [mapT_zero, ← hl1]
          exact h3
        rintro ⟨L, i⟩ w KK ⟨hi, hw, hL, hsep⟩ hKK
        simp only at hi hw hL hsep
        simp only [List.headD_cons, List.tail_cons, lss_i]
        by_cases hlt : i < ps1.length
        · have hlt' : i < (mapT (fun m => { m with synced := false }) i ps1).length := by rw [mapT_len]; exact hlt
          obtain ⟨q, -, x1, -, x2⟩ := hw.acc.at_ pC_len p0 .i64 hlt'
          have x3 := x2 0 (by omega) 1
          rw [Nat.add_zero] at x3
          have hpu := fun m G' hG => hw.putM hlt' m G' hG
          have hm := getD_memD p0 hlt'
          have hm1 := getD_memD p0 hlt
          rw [mapT_at _ _ hlt] at x3 hpu hm
          have htk := take_succ' p0 ps1 hlt
          have hms := mapT_succ (fun m => { m with synced := false }) ps1 hlt
          simp only [hlt, decide_true, x1, x3, pC, List.getElem?_cons_zero, hvNil, hvFld]
          refine store1 (hw.mem _ hm).2.1 (by simp [gmC]) (hc_bool _) (ho_bool _) rfl ?_
          have hw2 := hpu { (ps1.getD i p0).2 with synced := false } _ rfl
          have hL2 := hL.put (.cells ((gmC (ps1.getD i p0).2).set 4 (.lit (.bool false)))) (hsep _ (.inr (.inr ⟨_, hm1, rfl⟩)))
          have hat2 := set_at w (ps1.getD i p0).1 (.cells ((gmC (ps1.getD i p0).2).set 4 (.lit (.bool false))))
          rw [show (gmC (ps1.getD i p0).2).set 4 (.lit (.bool false)) = gmC { (ps1.getD i p0).2 with synced := false } from rfl] at hL2 hat2 ⊢
          generalize w.set (ps1.getD i p0).1 (.cells (gmC { (ps1.getD i p0).2 with synced := false })) = w2 at *
          rw [← hms] at hw2
          generalize ps1.getD i p0 = x at *
          have l0 : vLoad w2 (.ptr x.1 0) 1 false = some (strV x.2.id) := load_cell 0 1 hat2
          have l1 : vLoad w2 (.ptr x.1 1) 1 false = some (rowL strC 1 x.2.tp) := load_cell 1 1 hat2
          simp only [l0, l1]
          rw [show vMk [(0, 1), (1, 1)] [.lit (.string .empty), .lit (.slice none 0 0)] [(0, strV x.2.id), (1, rowL strC 1 x.2.tp)] = some (.agg (memC ⟨x.2.id, some x.2.tp⟩)) from rfl]
          simp only
          refine hL2.app1 hw2.le (hc_agg _) rfl rfl ⟨by omega, by omega⟩ fun L' w3 g1 g2 g3 => ?_
          simp only [inc_i hlt (by omega)]
          have hids : ∀ k, (k = g ∨ accId A1 = some k ∨ ∃ p ∈ mapT (fun m => { m with synced := false }) (i + 1) ps1, p.1 = k) → (k = g ∨ accId A1 = some k ∨ ∃ p ∈ ps1, p.1 = k) := fun k hk => by
            rcases hk with hk | hk | ⟨p, hp, rfl⟩
            · exact .inl hk
            · exact .inr (.inl hk)
            · have : p.1 ∈ (mapT (fun m => { m with synced := false }) (i + 1) ps1).map Prod.fst := List.mem_map.2 ⟨p, hp, rfl⟩
              rw [mapT_fst] at this
              obtain ⟨p', hp', e⟩ := List.mem_map.1 this
              exact .inr (.inr ⟨p', hp', e⟩)
          refine hKK (L', i + 1) _ _ rfl ⟨hlt, hw2.keep g2 fun k ob hk ho => (g3 k ob (hsep k (hids k hk)) ho).1, ?_, fun k hk => ?_⟩ (by show ps1.length - (i + 1) < ps1.length - i; omega)
          · show Acc b w3 2 L' (i + 1) (rows memC ((ps1.take (i + 1)).map _))
            rw [htk, List.map_append, rows_app]
            exact g1
          · show accId L' ≠ some k
            have hex : ∃ ob, w2 k = some ob := by
              rcases hk with rfl | hk | ⟨p, hp, rfl⟩
              · exact ⟨_, hw2.at_⟩
              · obtain ⟨-, rest, hr⟩ := hw2.acc.free hk
                exact ⟨_, hr⟩
              · have : p.1 ∈ (mapT (fun m => { m with synced := false }) (i + 1) ps1).map Prod.fst := by rw [mapT_fst]; exact List.mem_map.2 ⟨p, hp, rfl⟩
                obtain ⟨p', hp', e⟩ := List.mem_map.1 this
                rw [← e]
                exact ⟨_, (hw2.mem p' hp').2.1⟩
            obtain ⟨ob, hob⟩ := hex
            exact (g3 k ob (hsep k hk) hob).2
        · obtain rfl : i = ps1.length := by omega
          rw [List.take_length] at hL
          simp only [hlt, decide_false]
          clear hKK
          obtain ⟨Lm, hLm⟩ : ∃ Lm, ps1.map (fun p => (⟨p.2.id, some p.2.tp⟩ : Mem)) = Lm := ⟨_, rfl⟩
          have hLml : Lm.length = ps1.length := by rw [← hLm, List.length_map]
          rw [hLm] at hL
          have rA : RowV w 2 L Lm.length (rows memC Lm) := by rw [hLml]; exact acc_row hL
          have rB : RowV w 2 all G1.all.length (rows topC G1.all) := hall'.le hw.le
          have htp : ∀ m ∈ Lm, (m.tp.getD []).length ≤ 1000000000 := fun m hm => by
            rw [← hLm] at hm
            obtain ⟨p, hp, rfl⟩ := List.mem_map.1 hm
            have := htpl p.2 (by rw [hl1]; exact List.mem_map.2 ⟨p, hp, rfl⟩)
            simp only [Option.getD_some]
            omega
          have hsh : ∀ rd, resD (if rd then roundA else rangeA) Lm G1.all = sharesOf rd (G1.l.map fun m => (m.id, m.tp)) G1.all := fun rd => by
            unfold sharesOf
            rw [hl1, List.map_map, List.map_map, ← hLm]
            rfl
          have hmap : (mapT (fun m => { m with synced := false }) ps1.length ps1).map Prod.snd = G1.l.map fun m => { m with synced := false } := by
            rw [mapT_all, hl1, List.map_map, List.map_map]
            rfl
          simp only [hw.ld, gC, List.getElem?_cons_succ, List.getElem?_cons_zero, GG.enter]
          have fin : ∀ o' : Option DD, o'.getD [] = sharesOf G1.round (G1.l.map fun m => (m.id, m.tp)) G1.all →
              ∃ A' ps' o'', GSt b (w.set g (.cells ((gC { ({ G1 with gen := G1.gen + 1 } : GG).enter 3 with l := (mapT (fun m => { m with synced := false }) ps1.length ps1).map Prod.snd } all A1 o).set 10 (rowV shE 2 o')))) g { G1 with gen := G1.gen + 1, state := 3, since := G1.now, l := G1.l.map fun m => { m with synced := false }, shares := sharesOf G1.round (G1.l.map fun m => (m.id, m.tp)) G1.all } all A' ps' o'' ∧ Kp ps ps' := fun o' ho' => by
            refine ⟨A1, mapT (fun m => { m with synced := false }) ps1.length ps1, o', ?_, fun p hp hj => ?_⟩
            rotate_left
            · have hp1 : p ∈ ps.filter fun x => !(!x.2.joined) := List.mem_filter.2 ⟨hp, by rw [hj]; rfl⟩
              rw [hps1] at hp1
              rw [mapT_all]
              exact ⟨_, List.mem_map.2 ⟨p, hp1, rfl⟩, rfl, rfl⟩
            have := hw.putG { G1 with gen := G1.gen + 1, state := 3, since := G1.now, l := G1.l.map fun m => { m with synced := false }, shares := sharesOf G1.round (G1.l.map fun m => (m.id, m.tp)) G1.all } all o' hmap.symm ho'
            exact this
          cases hrd : G1.round with
          | true =>
            simp only
            refine (round10U rA rB (by omega) (by omega) htp).mono ?_
            rintro v w' ⟨rfl, hv⟩
            obtain ⟨o', ho', rfl⟩ := uni hv
            simp only [vExtract, List.getElem?_cons_zero, List.getElem?_cons_succ]
            refine store1 hw.at_ (by simp [gC]) (hc_rowV _ _ _) (ho_rowV _ _ _) rfl ?_
            have hfin := fin o' (by rw [ho', hrd]; exact hsh true)
            simp only [hrd] at hfin ⊢
            exact hfin
          | false =>
            simp only
            refine (range13U rA rB (by omega) (by omega) htp).mono ?_
            rintro v w' ⟨rfl, hv⟩
            obtain ⟨o', ho', rfl⟩ := uni hv
            simp only [vExtract, List.getElem?_cons_zero, List.getElem?_cons_succ]
            refine store1 hw.at_ (by simp [gC]) (hc_rowV _ _ _) (ho_rowV _ _ _) rfl ?_
            have hfin := fin o' (by rw [ho', hrd]; exact hsh false)
            simp only [hrd] at hfin ⊢
            exact hfin
end
end Go.Proofs.YtkcgokkgefgcjaaDoor.AS
end
section
namespace Go.Proofs.YtkcgokkgefgcjaaDoor.AS
open Go.Proofs.YtkcgokkgefgcjaaDoor.H Go.Proofs.YtkcgokkgefgcjaaDoor.G0
set_option linter.unusedVariables false
set_option linter.unusedSimpArgs false
set_option maxRecDepth 100000
section
variable {b s : HS} {g : Nat} {G : GG} {all A : HV} {ps : List (Nat × GM)} {o : Option DD} {K : Nat}
theorem Bd.mono {K' : Nat} (h : Bd K G) (hk : K ≤ K') (hk' : K' ≤ 1000000) : Bd K' G := ⟨h.now, h.since, h.mem, ⟨h.gen.1, by have := h.gen.2; omega⟩, by have := h.len; omega, h.all, h.sh, hk'⟩
theorem Bd.enter (h : Bd K G) (st : Int) : Bd K (G.enter st) := ⟨h.now, h.now, h.mem, h.gen, h.len, h.all, h.sh, h.k⟩
theorem Bd.outs (h : Bd K G) (p : GM → Bool) : Bd K (G.outs p) := ⟨h.now, h.since, fun m hm => h.mem m (List.mem_filter.1 hm).1, h.gen, Nat.le_trans (List.length_filter_le _ _) h.len, h.all, h.sh, h.k⟩
theorem Bd.prepares (h : Bd K G) : Bd K G.prepares := by
  unfold GG.prepares
  split
  · exact h.enter 1
  · refine ⟨h.now, h.now, fun m hm => ?_, h.gen, by show (G.l.map _).length ≤ K; rw [List.length_map]; exact h.len, h.all, h.sh, h.k⟩
    obtain ⟨m', hm', rfl⟩ := List.mem_map.1 (show m ∈ G.l.map _ from hm)
    exact h.mem m' hm'
theorem sharesOf_bd (rd : Bool) (l : List (By × List By)) (al : List Top) (hl : l.length ≤ 1000000) (ha : al.length ≤ 1000) : (sharesOf rd l al).length ≤ 1000000 ∧ ∀ d ∈ sharesOf rd l al, d.2.length ≤ 1000000 := by
  unfold sharesOf
  cases rd with
  | true =>
    obtain ⟨h1, h2⟩ := resD_bound (rg := roundA) (l.map fun p => (⟨p.1, some p.2⟩ : Mem)) al (good_round _ _)
    rw [List.length_map] at h1
    exact ⟨by simp only [if_true]; omega, fun d hd => by simp only [if_true] at hd; have := h2 d hd; omega⟩
  | false =>
    obtain ⟨h1, h2⟩ := resD_bound (rg := rangeA) (l.map fun p => (⟨p.1, some p.2⟩ : Mem)) al (good_range _ _)
    rw [List.length_map] at h1
    exact ⟨by simp only [Bool.false_eq_true, if_false]; omega, fun d hd => by simp only [Bool.false_eq_true, if_false] at hd; have := h2 d hd; omega⟩
theorem Bd.forms1 (h : Bd K G) (hk : K + 1 ≤ 1000000) : Bd (K + 1) G.forms1 := by
  have ho := h.outs fun m => !m.joined
  unfold GG.forms1
  simp only
  generalize (G.outs fun m => !m.joined) = G1 at *
  split
  · exact (ho.enter 1).mono (by omega) hk
  · refine ⟨ho.now, ho.now, fun m hm => ?_, ?_, ?_, ho.all, sharesOf_bd _ _ _ ?_ ho.all, hk⟩
    · obtain ⟨m', hm', rfl⟩ := List.mem_map.1 (show m ∈ G1.l.map _ from hm)
      exact ho.mem m' hm'
    · have := ho.gen
      exact ⟨by show 0 ≤ G1.gen + 1; omega, by show G1.gen + 1 ≤ _; omega⟩
    · show (G1.l.map _).length ≤ _
      rw [List.length_map]
      have := ho.len
      omega
    · rw [List.length_map]; have h1 := ho.len; have h2 := ho.k; omega
theorem Bd.forms (h : Bd K G) (hk : K + 1 ≤ 1000000) : Bd (K + 1) G.forms := by
  unfold GG.forms
  split
  · exact h.forms1 hk
  · exact h.mono (by omega) hk
theorem Bd.ite {c : Prop} [Decidable c] {G1 G2 : GG} (h1 : Bd K G1) (h2 : Bd K G2) : Bd K (if c then G1 else G2) := by
  split
  · exact h1
  · exact h2
theorem Bd.goes1 (h : Bd K G) (hk : K + 1 ≤ 1000000) : Bd (K + 1) G.goes1 := by
  have h2 := h.outs fun m => decide (G.session < G.now - m.heard)
  unfold GG.goes1
  simp only
  exact Bd.forms (Bd.ite ((Bd.ite h2.prepares h2).enter 1) (Bd.ite h2.prepares h2)) hk
theorem Bd.goes {now : Int} (h : Bd K G) (hk : K + 1 ≤ 1000000) (hn : now ≤ 1125899906842624) : Bd (K + 1) (G.goes now) := by
  have h0 : Bd K { G with now := max G.now now } := ⟨by have := h.now; exact ⟨by show 0 ≤ max G.now now; omega, by show max G.now now ≤ _; omega⟩, h.since, h.mem, h.gen, h.len, h.all, h.sh, h.k⟩
  have h1 := h0.goes1 hk
  unfold GG.goes
  generalize ({ G with now := max G.now now } : GG).goes1 = G1 at *
  unfold GG.goes2
  split
  · exact (h1.outs _).prepares
  · exact h1
theorem Bd.setAll {al : List Top} (h : Bd K G) (ha : al.length ≤ 1000) : Bd K { G with all := al } := ⟨h.now, h.since, h.mem, h.gen, h.len, ha, h.sh, h.k⟩
theorem Bd.pslen (hb : Bd K G) (h : GSt b s g G all A ps o) : ps.length ≤ 1000000 := by have h1 := hb.len; have h2 := hb.k; rw [h.len] at h1; omega
theorem prepares_all (G : GG) : G.prepares.all = G.all := by unfold GG.prepares; split <;> rfl
theorem outs_none {p : GM → Bool} (h : G.any p = false) : G.outs p = G := by
  unfold GG.outs GG.any at *
  have : (G.l.filter fun m => !p m) = G.l := List.filter_eq_self.2 fun m hm => by have := List.any_eq_false.1 h m hm; simpa using this
  rw [this]
theorem max2 (a c : Int) : hfold vMax2 (.lit (.int .i64 a)) [.lit (.int .i64 c)] = some (.lit (.int .i64 (max a c))) := by
  simp only [hfold, vMax2, Option.bind_some]
  congr 3
  split <;> omega
theorem goes39 (h : GSt b s g G all A ps o) (hall : RowV b 2 all G.all.length (rows topC G.all)) (hb : Bd K G) (hk : K + 1 ≤ 1000000) {now : Int} (hn : now ≤ 1125899906842624) : HC Tryd.prog 39 [.ptr g 0, .lit (.int .i64 now)] s (fun v t => ∃ A' ps' o', GSt b t g (G.goes now) all A' ps' o') := by
  refine HC39 ?_
  unfold c39
  refine hbox_intro (hc_ptr _ _) fun x1 hx1 => ?_
  -- the box is counted to what lies still
  have hx := h.grow hx1 (.cells [.ptr g 0])
  have hbx : HS.le b (b.set x1 (.cells [.ptr g 0])) := le_set_new _ (le_refl' b) (none_of_le h.le hx1)
  have hallx := hall.le hbx
  have e1 := set_at b x1 (.cells [.ptr g 0])
  generalize b.set x1 (.cells [.ptr g 0]) = c at *
  generalize s.set x1 (.cells [.ptr g 0]) = s1 at *
  have lx : ∀ u, HS.le c u → vLoad u (.ptr x1 0) 1 false = some (.ptr g 0) := fun u hu => load_cell 0 1 (hu _ _ e1)
  simp only [lx s1 hx.le, hvNil, hvFld, bindO, hx.ld, gC, List.getElem?_cons_succ, List.getElem?_cons_zero, max2]
  refine store1 hx.at_ (by simp [gC]) (hc_int _ _) (ho_int _ _) rfl ?_
  obtain ⟨G0, hG0⟩ : ∃ G0, ({ G with now := max G.now now } : GG) = G0 := ⟨_, rfl⟩
  have h0 := hx.putG { G with now := max G.now now } all o rfl hx.sh
  rw [show (gC G all A o).set 6 (.lit (.int .i64 (max G.now now))) = gC { G with now := max G.now now } all A o from rfl]
  have hb0 : Bd K { G with now := max G.now now } := ⟨by have := hb.now; exact ⟨by show 0 ≤ max G.now now; omega, by show max G.now now ≤ _; omega⟩, hb.since, hb.mem, hb.gen, hb.len, hb.all, hb.sh, hb.k⟩
  have ha0 : ({ G with now := max G.now now } : GG).all = G.all := rfl
  unfold GG.goes
  rw [hG0] at h0 hb0 ha0 ⊢
  clear hG0
  generalize s1.set g (.cells (gC G0 all A o)) = s2 at *
  clear hx
  have hl0 := hb0.pslen h0
  obtain ⟨f, hf⟩ : ∃ f : GM → Bool, (fun m => decide (G0.session < G0.now - m.heard)) = f := ⟨_, rfl⟩
  obtain ⟨G3, hG3⟩ : ∃ G3, (if (G0.any f && !decide ((G0.outs f).state = 2)) = true then (G0.outs f).prepares else G0.outs f) = G3 := ⟨_, rfl⟩
  obtain ⟨G4, hG4⟩ : ∃ G4, (if G3.state = 2 ∧ G3.l = [] then G3.enter 1 else G3) = G4 := ⟨_, rfl⟩
  have hgo : G0.goes1 = G4.forms := by
    unfold GG.goes1
    simp only
    rw [hf, hG3, hG4]
  have hb2 := hb0.outs f
  have hb3 : Bd K G3 := by
    rw [← hG3]; split
    · exact hb2.prepares
    · exact hb2
  have ha3 : G3.all = G.all := by
    rw [← hG3]; split
    · rw [prepares_all]; exact ha0
    · exact ha0
  have hb4 : Bd K G4 := by
    rw [← hG4]; split
    · exact hb3.enter 1
    · exact hb3
  have ha4 : G4.all = G.all := by
    rw [← hG4]; split
    · exact ha3
    · exact ha3
  rw [hgo]
  refine Join.of (fun _ u => ∃ A3 ps3, GSt c u g G3 all A3 ps3 o) ?_ ?_
  rotate_left
  · intro K12 hK12
    refine Join.of (fun xs u => ∃ A2 ps2, GSt c u g (G0.outs f) all A2 ps2 o ∧ xs = [.lit (.bool (G0.any f && !decide ((G0.outs f).state = 2)))]) ?_ ?_
    · rintro _ u ⟨A2, ps2, h2, rfl⟩
      simp only [List.headD_cons]
      cases hc : G0.any f && !decide ((G0.outs f).state = 2) with
      | true =>
        rw [if_pos hc] at hG3
        simp only [hcond, lx u h2.le]
        refine (prepares31 h2 (hb2.pslen h2)).mono ?_
        rintro v t ⟨ps3, h3, -⟩
        rw [hG3] at h3
        exact hK12 _ _ ⟨_, _, h3⟩
      | false =>
        rw [if_neg (by rw [hc]; exact Bool.false_ne_true)] at hG3
        simp only [hcond]
        rw [hG3] at h2
        exact hK12 _ _ ⟨_, _, h2⟩
    · intro K15 hK15
      simp only [lx s2 h0.le]
      refine (outs41 h0 hl0 f (fn := 56) (fcaps := [.ptr x1 0]) (fun u hu x hx K hK => ?_)).mono ?_
      · have nx : accId A ≠ some x1 := fun e => by have := (h0.acc.free e).1; rw [e1] at this; cases this
        have lx1 : vLoad u (.ptr x1 0) 1 false = some (.ptr g 0) := load_cell 0 1 (hu _ _ nx (h0.le _ _ e1))
        have lg : ∀ k, vLoad u (.ptr g k) 1 false = (gC G0 all A o)[k]? := fun k => load_cell k 1 (hu _ _ h0.accg h0.at_)
        obtain ⟨m1, m2, m3, m4⟩ := h0.mem x hx
        have lm : ∀ k, vLoad u (.ptr x.1 k) 1 false = (gmC x.2)[k]? := fun k => load_cell k 1 (hu _ _ m4 m2)
        have hmb := hb0.mem x.2 (by rw [h0.l]; exact List.mem_map.2 ⟨x, hx, rfl⟩)
        have hnb := hb0.now
        simp only [hcall, hite_eq, plain56, if_true, List.cons_append, List.nil_append]
        refine HC56 ?_
        unfold c56
        simp only [lx1, lg, lm, hvNil, hvFld, bindO, gC, gmC, List.getElem?_cons_succ, List.getElem?_cons_zero]
        rw [sub_n (by omega) (by omega)]
        simp only [gtr_n]
        rw [← hf] at hK
        exact hK
      · rintro v u ⟨rfl, A2, h2⟩
        cases hany : G0.any f with
        | false =>
          simp only [hcond]
          exact hK15 _ _ ⟨_, _, h2, by rw [hany]; rfl⟩
        | true =>
          simp only [hcond, lx u h2.le, hvNil, hvFld, bindO, h2.ld, gC, List.getElem?_cons_succ, List.getElem?_cons_zero, neq_i3]
          exact hK15 _ _ ⟨_, _, h2, by rw [hany, Bool.true_and]⟩
  rintro _ u ⟨A3, ps3, h3⟩
  refine Join.of (fun _ u => ∃ A4 ps4, GSt c u g G4 all A4 ps4 o) ?_ ?_
  rotate_left
  · intro K29 hK29
    refine Join.of (fun xs w => w = u ∧ xs = [.lit (.bool (decide (G3.state = 2) && decide (ps3.length = 0)))]) ?_ ?_
    · rintro _ w ⟨rfl, rfl⟩
      simp only [List.headD_cons]
      cases hc : decide (G3.state = 2) && decide (ps3.length = 0) with
      | true =>
        simp only [Bool.and_eq_true, decide_eq_true_eq] at hc
        rw [if_pos ⟨hc.1, h3.nil.2 (List.eq_nil_of_length_eq_zero hc.2)⟩] at hG4
        simp only [hcond, lx w h3.le]
        refine (enter36 h3 1).mono ?_
        rintro v t ⟨h4, -⟩
        rw [hG4] at h4
        exact hK29 _ _ ⟨_, _, h4⟩
      | false =>
        rw [if_neg (fun hh => by
          have : ps3 = [] := h3.nil.1 hh.2
          simp [hh.1, this] at hc)] at hG4
        simp only [hcond]
        rw [hG4] at h3
        exact hK29 _ _ ⟨_, _, h3⟩
    · intro K32 hK32
      have hA3 : vLenT (Tryd.prog.underlying 66) u A3 = some (.lit (.int .i64 (ps3.length : Int))) := h3.acc.len _ _
      simp only [lx u h3.le, hvNil, hvFld, bindO, h3.ld, gC, List.getElem?_cons_succ, List.getElem?_cons_zero, eql_n]
      by_cases hs : G3.state = 2
      · simp only [hs, decide_true, hcond, lx u h3.le, hvNil, hvFld, bindO, h3.ld, gC, List.getElem?_cons_succ, List.getElem?_cons_zero, eql_n, hA3]
        refine hK32 _ _ ⟨rfl, ?_⟩
        congr 3
        simp [hs]
      · simp only [hs, decide_false, hcond]
        exact hK32 _ _ ⟨rfl, by simp [hs]⟩
  rintro _ u4 ⟨A4, ps4, h4⟩
  simp only [lx u4 h4.le]
  refine (forms32 h4 (by rw [ha4]; exact hallx) hb4).mono ?_
  rintro v u5 ⟨A5, ps5, o5, h5, -⟩
  have hb5 := hb4.forms hk
  generalize G4.forms = G5 at *
  clear hgo
  refine Join.of (fun xs w => ∃ r, xs = [.lit (.bool r)] ∧ ∃ A6 ps6, if r = true then GSt c w g (G5.outs fun m => !m.synced) all A6 ps6 o5 ∧ G5.goes2 = (G5.outs fun m => !m.synced).prepares else GSt c w g G5.goes2 all A6 ps6 o5) ?_ ?_
  · rintro _ w ⟨r, rfl, A6, ps6, h6⟩
    simp only [List.headD_cons]
    cases r with
    | true =>
      simp only [if_true] at h6
      obtain ⟨h6, e6⟩ := h6
      simp only [hcond, lx w h6.le]
      refine (prepares31 h6 ((hb5.outs _).pslen h6)).mono ?_
      rintro v t ⟨ps7, h7, -⟩
      rw [← e6] at h7
      exact ⟨_, _, _, h7.base hbx⟩
    | false =>
      simp only [Bool.false_eq_true, if_false] at h6
      simp only [hcond]
      exact ⟨_, _, _, h6.base hbx⟩
  · intro K52 hK52
    simp only [lx u5 h5.le, hvNil, hvFld, bindO, h5.ld, gC, List.getElem?_cons_succ, List.getElem?_cons_zero, eql_n]
    have hno : ∀ w, ¬ (G5.state = 3 ∧ G5.over = true ∧ (G5.any fun m => !m.synced) = true) → GSt c w g G5 all A5 ps5 o5 → K52 [.lit (.bool false)] w := fun w hh h6 => by
      refine hK52 _ _ ⟨false, rfl, A5, ps5, ?_⟩
      simp only [Bool.false_eq_true, if_false]
      unfold GG.goes2
      rw [if_neg hh]
      exact h6
    by_cases hs : G5.state = 3
    · simp only [hs, decide_true, hcond, lx u5 h5.le]
      refine (over50 h5 hb5).mono ?_
      rintro v w ⟨rfl, rfl⟩
      cases hov : G5.over with
      | false =>
        simp only [hcond]
        exact hno _ (fun hh => by rw [hov] at hh; cases hh.2.1) h5
      | true =>
        simp only [hcond, lx w h5.le]
        refine (outs41 h5 (hb5.pslen h5) (fun m => !m.synced) (fn := 57) (fcaps := []) (fun u hu x hx K hK => ?_)).mono ?_
        · obtain ⟨m1, m2, m3, m4⟩ := h5.mem x hx
          have e : vLoad u (.ptr x.1 4) 1 false = (gmC x.2)[4]? := load_cell 4 1 (hu _ _ m4 m2)
          simp only [hcall, hite_eq, plain57, if_true, List.append_nil]
          refine HC57 ?_
          unfold c57
          simp only [hvNil, hvFld, bindO, e, gmC, List.getElem?_cons_succ, List.getElem?_cons_zero, vUn]
          exact hK
        · rintro v t ⟨rfl, A6, h6⟩
          refine hK52 _ _ ⟨_, rfl, A6, (ps5.filter fun x => !!x.2.synced), ?_⟩
          cases hany : G5.any fun m => !m.synced with
          | true =>
            simp only [if_true]
            refine ⟨h6, ?_⟩
            unfold GG.goes2
            rw [if_pos ⟨hs, hov, hany⟩]
          | false =>
            simp only [Bool.false_eq_true, if_false]
            unfold GG.goes2
            rw [if_neg (fun hh => by rw [hany] at hh; cases hh.2.2), ← outs_none hany]
            exact h6
    · simp only [hs, decide_false, hcond]
      exact hno _ (fun hh => hs hh.1) h5
end
end Go.Proofs.YtkcgokkgefgcjaaDoor.AS
end
section
namespace Go.Proofs.YtkcgokkgefgcjaaDoor.AS
open Go.Proofs.YtkcgokkgefgcjaaDoor.H Go.Proofs.YtkcgokkgefgcjaaDoor.G0
set_option linter.unusedVariables false
set_option linter.unusedSimpArgs false
set_option maxRecDepth 100000
namespace GG
def upd (G : GG) (id : By) (f : GM → GM) : GG := match G.at_ id with
  | some i => { G with l := G.l.set i (f (G.l.getD i gm0)) }
  | none => G
def fenceE (G : GG) (id : By) (gen : Int) : Int := match G.at_ id with
  | none => 13
  | some _ => if gen = G.gen then 0 else 12
noncomputable def heard (G : GG) (id : By) (gen now : Int) : GG × Int :=
  let G1 := G.goes now
  if G1.fenceE id gen = 0 then (G1.upd id fun m => { m with heard := G1.now }, if G1.state = 2 then 14 else 0) else (G1, G1.fenceE id gen)
noncomputable def sync (G : GG) (id : By) (gen now : Int) : GG × List Slot × Int :=
  if (G.heard id gen now).2 = 0 then
    let G2 := (G.heard id gen now).1.upd id fun m => { m with synced := true }
    (if G2.state = 3 ∧ G2.l.all (·.synced) = true then G2.enter 4 else G2, ofD G2.shares id, 0)
  else ((G.heard id gen now).1, [], (G.heard id gen now).2)
end GG
section
variable {b s : HS} {g : Nat} {G : GG} {all A : HV} {ps : List (Nat × GM)} {o : Option DD} {K : Nat}
theorem GSt.upd (h : GSt b s g G all A ps o) {i : Nat} (hi : i < ps.length) (f : GM → GM) : GSt b (s.set (ps.getD i p0).1 (.cells (gmC (f (ps.getD i p0).2)))) g { G with l := G.l.set i (f (G.l.getD i gm0)) } all A (ps.set i ((ps.getD i p0).1, f (ps.getD i p0).2)) o := by
  refine h.putM hi _ _ ?_
  have : G.l.getD i gm0 = (ps.getD i p0).2 := by
    rw [h.l, getD_get _ _ (by simpa using hi), getD_get _ _ hi, List.getElem_map]
  rw [this, h.l, List.map_set]
/-- What is new lies still. -/
def ups (b s t : HS) : HS := fun k => if s k = none then t k else b k
theorem ups_le {b s t : HS} (hb : HS.le b s) (hle : HS.le s t) : HS.le (ups b s t) t := by
  intro k ob hk
  unfold ups at hk
  split at hk
  · exact hk
  · exact hle _ _ (hb _ _ hk)
theorem le_ups {b s t : HS} (hb : HS.le b s) : HS.le b (ups b s t) := by
  intro k ob hk
  unfold ups
  rw [if_neg (by rw [hb _ _ hk]; exact Option.some_ne_none _)]
  exact hk
theorem ups_old {b s t : HS} {k : Nat} {ob : HObj} (h : s k = some ob) : ups b s t k = b k := by unfold ups; rw [if_neg (by rw [h]; exact Option.some_ne_none _)]
theorem GSt.ups {t : HS} (h : GSt b s g G all A ps o) (hle : HS.le s t) : GSt (ups b s t) t g G all A ps o := by
  refine ⟨ups_le h.le hle, by rw [ups_old h.at_]; exact h.free, hle _ _ h.at_, ?_, h.accg, fun p hp => ?_, h.nodup, h.l, h.sh⟩
  · rcases h.acc with h1 | ⟨q, f, r, k', h1, h2, h3, h4⟩
    · exact .inl h1
    · exact .inr ⟨q, f, r, k', by rw [ups_old h3]; exact h1, h2, hle _ _ h3, h4⟩
  · obtain ⟨h1, h2, h3⟩ := h.mem p hp
    exact ⟨by rw [ups_old h2]; exact h1, hle _ _ h2, h3⟩
theorem acc0_ups {t : HS} {sz : Nat} {v : HV} {n : Nat} {cs : List HV} (h : Acc0 s t sz v n cs) : RowV (ups b s t) sz v n cs := by
  rcases h with (⟨h1, h2, h3⟩ | ⟨q, f, h1, h2, h3, h4, h5⟩) | ⟨h1, h2, q, h3, h4, h5⟩
  · exact .inl ⟨h1, h2, h3⟩
  · exact .inr ⟨q, f, h2, by unfold ups; rw [if_pos h1]; exact h3, h4⟩
  · subst h1 h2
    exact .inr ⟨q, true, h4, by unfold ups; rw [if_pos h3]; exact h5, by simp⟩
/-- Topics that are handed in. -/
def ARow (a : HV) (al : List Top) : Prop := a = rowL topC 2 al ∧ al ≠ []
theorem clone38 {a : HV} {al : List Top} (h : ARow a al) (hn : al.length ≤ 1000) : HC Tryd.prog 38 [a] s (fun v t => Acc0 s t 2 v al.length (rows topC al) ∧ HS.le s t) := by
  obtain ⟨rfl, h0⟩ := h
  cases al with
  | nil => exact absurd rfl h0
  | cons x l =>
    refine HC38 ?_
    unfold c38
    rw [show vCmp (Tryd.prog.underlying 29) .eql (rowL topC 2 (x :: l)) (.lit (.slice none 0 0)) = some (.lit (.bool false)) from rfl]
    simp only [bindO, hcond]
    refine hBS0 fun id hid => ?_
    exact app_empty (b := s) (le_set_new _ (le_refl' s) hid) hid (set_at _ _ _) (k := (x :: l).length) (lcells_rowL _ _) rfl (rows_len topC_len _) ⟨by omega, by omega⟩ fun A' t' k1 k2 => ⟨k1, k2⟩
theorem eqp23 (g : Nat) : vCmp (Tryd.prog.underlying 23) .eql (.ptr g 0) (.lit (.pointer none)) = some (.lit (.bool false)) := rfl
theorem nep23 (g : Nat) : vCmp (Tryd.prog.underlying 23) .neq (.ptr g 0) (.lit (.pointer none)) = some (.lit (.bool true)) := rfl
theorem eqp69 (g : Nat) : vCmp (Tryd.prog.underlying 69) .eql (.ptr g 0) (.lit (.pointer none)) = some (.lit (.bool false)) := rfl
theorem eqn69 : vCmp (Tryd.prog.underlying 69) .eql (.lit (.pointer none)) (.lit (.pointer none)) = some (.lit (.bool true)) := rfl
theorem eql_24 (a b : Int) : vCmp (Tryd.prog.underlying 24) .eql (.lit (.int .i64 a)) (.lit (.int .i64 b)) = some (.lit (.bool (decide (a = b)))) := by
  simp only [vCmp, vBin, if_true, Option.some.injEq, HV.lit.injEq, Value.bool.injEq]
  congr 1
theorem neq_24 (a c : Int) : vCmp (Tryd.prog.underlying 24) .neq (.lit (.int .i64 a)) (.lit (.int .i64 c)) = some (.lit (.bool (!decide (a = c)))) := by
  simp only [vCmp, vBin, if_true, Option.some.injEq, HV.lit.injEq, Value.bool.injEq, bne]
  congr 1
theorem tick17 (h : GSt b s g G all A ps o) (hb : Bd K G) (hk : K + 1 ≤ 1000000) {a : HV} {al : List Top} (ha : ARow a al) (hal : al.length ≤ 1000) {now : Int} (hn : now ≤ 1125899906842624) :
    HC Tryd.prog 17 [.ptr g 0, a, .lit (.int .i64 now)] s (fun v t => ∃ b' all' A' ps' o', HS.le b b' ∧ RowV b' 2 all' al.length (rows topC al) ∧ GSt b' t g (G.tick al now) all' A' ps' o') := by
  refine HC17 ?_
  unfold c17
  simp only [nep23, bindO, hcond]
  refine (clone38 ha hal).mono ?_
  rintro v t ⟨h1, h2⟩
  have hu := h.ups h2
  have hr := acc0_ups (b := b) h1
  have hle := le_ups (t := t) h.le
  generalize ups b s t = b1 at *
  simp only [hvNil, hvFld]
  refine store1 hu.at_ (by simp [gC]) (acc0_one h1).2 (acc0_one h1).1 rfl ?_
  have h0 := hu.putG { G with all := al } v o rfl hu.sh
  rw [show (gC G all A o).set 8 v = gC { G with all := al } v A o from rfl]
  refine (goes39 h0 hr (hb.setAll hal) hk hn).mono ?_
  rintro _ u ⟨A', ps', o', h3⟩
  exact ⟨b1, v, A', ps', o', hle, hr, h3⟩
theorem at_lt (h : GSt b s g G all A ps o) {id : By} {i : Nat} (hi : G.at_ id = some i) : i < ps.length := by
  rw [h.idx] at hi
  exact (List.findIdx?_eq_some_iff_getElem.1 hi).1
theorem fence44 (h : GSt b s g G all A ps o) (hl : ps.length ≤ 1000000) (id : By) (gen : Int) : HC Tryd.prog 44 [.ptr g 0, strV id, .lit (.int .i64 gen)] s (fun v t => t = s ∧ v = .tup [if G.fenceE id gen = 0 then ptrAt ps (G.at_ id) else .lit (.pointer none), .lit (.int .i64 (G.fenceE id gen))]) := by
  refine HC44 ?_
  unfold c44
  simp only [eqp23, bindO, hcond]
  refine (find27 h hl id).mono ?_
  rintro v t ⟨rfl, rfl⟩
  unfold GG.fenceE
  cases hi : G.at_ id with
  | none =>
    simp only [ptrAt, eqn69]
    exact ⟨trivial, rfl⟩
  | some i =>
    simp only [ptrAt, eqp69, hvNil, hvFld, h.ld, gC, List.getElem?_cons_succ, List.getElem?_cons_zero, neq_i3]
    by_cases he : gen = G.gen
    · simp only [he, decide_true, Bool.not_true, if_true]
      exact ⟨trivial, by trivial⟩
    · simp only [he, decide_false, Bool.not_false, if_false]
      exact ⟨trivial, by trivial⟩
theorem at_ids {G G' : GG} (h : G'.l.map GM.id = G.l.map GM.id) (id : By) : G'.at_ id = G.at_ id := by
  have e : ∀ l : List GM, l.findIdx? (fun m => decide (m.id = id)) = (l.map GM.id).findIdx? fun x => decide (x = id) := fun l => by rw [List.findIdx?_map]; rfl
  unfold GG.at_
  rw [e, e, h]
theorem upd_ids (G : GG) (id : By) (f : GM → GM) (hf : ∀ m, (f m).id = m.id) : (G.upd id f).l.map GM.id = G.l.map GM.id := by
  unfold GG.upd
  cases hi : G.at_ id with
  | none => rfl
  | some i =>
    have hi' : i < G.l.length := (List.findIdx?_eq_some_iff_getElem.1 hi).1
    show (G.l.set i _).map GM.id = _
    rw [List.map_set, hf, getD_get _ _ hi']
    have : G.l[i].id = (G.l.map GM.id)[i]'(by simpa using hi') := by simp
    rw [this, List.set_getElem_self]
theorem GSt.updId (h : GSt b s g G all A ps o) {id : By} {i : Nat} (hi : G.at_ id = some i) (f : GM → GM) : GSt b (s.set (ps.getD i p0).1 (.cells (gmC (f (ps.getD i p0).2)))) g (G.upd id f) all A (ps.set i ((ps.getD i p0).1, f (ps.getD i p0).2)) o := by
  unfold GG.upd
  rw [hi]
  exact h.upd (at_lt h hi) f
theorem heard33 (h : GSt b s g G all A ps o) (hall : RowV b 2 all G.all.length (rows topC G.all)) (hb : Bd K G) (hk : K + 1 ≤ 1000000) (id : By) (gen : Int) {now : Int} (hn : now ≤ 1125899906842624) :
    HC Tryd.prog 33 [.ptr g 0, strV id, .lit (.int .i64 gen), .lit (.int .i64 now)] s (fun v t => ∃ A' ps' o', GSt b t g (G.heard id gen now).1 all A' ps' o' ∧ v = .tup [if (G.heard id gen now).2 = 0 then ptrAt ps' ((G.heard id gen now).1.at_ id) else .lit (.pointer none), .lit (.int .i64 (G.heard id gen now).2)]) := by
  refine HC33 ?_
  unfold c33
  simp only [nep23, bindO, hcond]
  unfold Join
  refine (goes39 h hall hb hk hn).mono ?_
  rintro _ t ⟨A1, ps1, o1, h1⟩
  have hb1 := hb.goes hk hn
  unfold GG.heard
  generalize G.goes now = G1 at *
  simp only
  refine (fence44 h1 (hb1.pslen h1) id gen).mono ?_
  rintro v u ⟨rfl, rfl⟩
  simp only [vExtract, List.getElem?_cons_succ, List.getElem?_cons_zero, neq_24]
  by_cases he : G1.fenceE id gen = 0
  · obtain ⟨i, hi⟩ : ∃ i, G1.at_ id = some i := by
      unfold GG.fenceE at he
      cases hi : G1.at_ id with
      | none => rw [hi] at he; cases he
      | some i => exact ⟨i, rfl⟩
    have hlt := at_lt h1 hi
    have hm := getD_memD p0 hlt
    have hids := at_ids (upd_ids G1 id (fun m => { m with heard := G1.now }) (fun m => rfl)) id
    simp only [he, decide_true, Bool.not_true, if_true, hi, ptrAt, hvNil, hvFld, h1.ld, gC, List.getElem?_cons_succ, List.getElem?_cons_zero]
    refine store1 (h1.mem _ hm).2.1 (by simp [gmC]) (hc_int _ _) (ho_int _ _) rfl ?_
    have h2 := h1.updId hi (fun m => { m with heard := G1.now })
    rw [show (gmC (ps1.getD i p0).2).set 2 (.lit (.int .i64 G1.now)) = gmC { (ps1.getD i p0).2 with heard := G1.now } from rfl]
    have e0 : (ps1.getD i p0).1 = ((ps1.set i ((ps1.getD i p0).1, { (ps1.getD i p0).2 with heard := G1.now })).getD i p0).1 := by
      rw [getD_get p0 (ps1.set _ _) (by rw [List.length_set]; exact hlt), List.getElem_set_self]
    have est : (G1.upd id fun m => { m with heard := G1.now }).state = G1.state := by unfold GG.upd; rw [hi]
    simp only [h2.ld, gC, List.getElem?_cons_succ, List.getElem?_cons_zero, eql_n, est]
    by_cases hs : G1.state = 2
    · simp only [hs, decide_true]
      refine ⟨_, _, _, h2, ?_⟩
      simp
    · simp only [hs, decide_false]
      refine ⟨_, _, _, h2, ?_⟩
      rw [hids, hi]
      simp only [if_false, if_true, ptrAt]
      rw [← e0]
  · simp only [he, decide_false, Bool.not_false, if_false]
    exact ⟨_, _, _, h1, trivial⟩
end
end Go.Proofs.YtkcgokkgefgcjaaDoor.AS
end
section
namespace Go.Proofs.YtkcgokkgefgcjaaDoor.AS
open Go.Proofs.YtkcgokkgefgcjaaDoor.H Go.Proofs.YtkcgokkgefgcjaaDoor.G0
set_option linter.unusedVariables false
set_option linter.unusedSimpArgs false
set_option maxRecDepth 100000
section
variable {b s : HS} {g : Nat} {G : GG} {all A : HV} {ps : List (Nat × GM)} {o : Option DD} {K : Nat}
theorem GSt.is {b' : HS} (h : GSt b' s g G all A ps o) (hle : HS.le b b') (hall : RowV b' 2 all G.all.length (rows topC G.all)) : IsG b s g G := ⟨b', all, A, ps, o, hle, hall, h⟩
theorem forms1_all (G : GG) : G.forms1.all = G.all := by unfold GG.forms1; simp only; split <;> rfl
theorem forms_all (G : GG) : G.forms.all = G.all := by unfold GG.forms; split; exact forms1_all G; rfl
theorem outs_all (G : GG) (p : GM → Bool) : (G.outs p).all = G.all := rfl
theorem goes_all (G : GG) (now : Int) : (G.goes now).all = G.all := by
  have h1 : ∀ G : GG, G.goes1.all = G.all := fun G => by
    unfold GG.goes1
    simp only
    rw [forms_all]
    repeat' split
    all_goals first | rfl | (show (GG.prepares _).all = _; rw [prepares_all]; rfl)
  unfold GG.goes GG.goes2
  split
  · rw [prepares_all, outs_all, h1]
  · rw [h1]
theorem upd_all (G : GG) (id : By) (f : GM → GM) : (G.upd id f).all = G.all := by unfold GG.upd; split <;> rfl
theorem heard_all (G : GG) (id : By) (gen now : Int) : (G.heard id gen now).1.all = G.all := by
  unfold GG.heard
  simp only
  split
  · rw [upd_all, goes_all]
  · exact goes_all _ _
theorem Bd.upd (h : Bd K G) (id : By) (f : GM → GM) (hf : ∀ m, m ∈ G.l → 0 ≤ (f m).heard ∧ (f m).heard ≤ 1125899906842624 ∧ (f m).tp.length ≤ 1000000) : Bd K (G.upd id f) := by
  unfold GG.upd
  cases hi : G.at_ id with
  | none => exact h
  | some i =>
    have hi' : i < G.l.length := (List.findIdx?_eq_some_iff_getElem.1 hi).1
    refine ⟨h.now, h.since, fun m hm => ?_, h.gen, by show (G.l.set _ _).length ≤ K; rw [List.length_set]; exact h.len, h.all, h.sh, h.k⟩
    rcases List.mem_or_eq_of_mem_set (show m ∈ G.l.set i _ from hm) with hm | rfl
    · exact h.mem m hm
    · exact hf _ (getD_memD gm0 hi')
theorem Bd.heard {id : By} {gen now : Int} (h : Bd K G) (hk : K + 1 ≤ 1000000) (hn : now ≤ 1125899906842624) : Bd (K + 1) (G.heard id gen now).1 := by
  have h1 := h.goes hk hn
  unfold GG.heard
  simp only
  split
  · exact h1.upd id (fun m => { m with heard := (G.goes now).now }) fun m hm => ⟨h1.now.1, h1.now.2, (h1.mem m hm).2.2⟩
  · exact h1
theorem heardI (h : IsG b s g G) (hb : Bd K G) (hk : K + 1 ≤ 1000000) (id : By) (gen : Int) {now : Int} (hn : now ≤ 1125899906842624) :
    HC Tryd.prog 33 [.ptr g 0, strV id, .lit (.int .i64 gen), .lit (.int .i64 now)] s (fun v t => ∃ b' all A ps o, HS.le b b' ∧ RowV b' 2 all (G.heard id gen now).1.all.length (rows topC (G.heard id gen now).1.all) ∧ GSt b' t g (G.heard id gen now).1 all A ps o ∧ v = .tup [if (G.heard id gen now).2 = 0 then ptrAt ps ((G.heard id gen now).1.at_ id) else .lit (.pointer none), .lit (.int .i64 (G.heard id gen now).2)]) := by
  obtain ⟨b1, all, A, ps, o, h1, h2, h3⟩ := h
  refine (heard33 h3 h2 hb hk id gen hn).mono ?_
  rintro v t ⟨A2, ps2, o2, k3, k4⟩
  exact ⟨b1, all, A2, ps2, o2, h1, by rw [heard_all]; exact h2, k3, k4⟩
theorem beat16 (h : IsG b s g G) (hb : Bd K G) (hk : K + 1 ≤ 1000000) (id : By) (gen : Int) {now : Int} (hn : now ≤ 1125899906842624) :
    HC Tryd.prog 16 [.ptr g 0, strV id, .lit (.int .i64 gen), .lit (.int .i64 now)] s (fun v t => IsG b t g (G.heard id gen now).1 ∧ v = .lit (.int .i64 (G.heard id gen now).2)) := by
  refine HC16 ?_
  unfold c16
  refine (heardI h hb hk id gen hn).mono ?_
  rintro v t ⟨b1, all, A, ps, o, h1, h2, h3, rfl⟩
  simp only [vExtract, List.getElem?_cons_succ, List.getElem?_cons_zero, bindO]
  exact ⟨h3.is h1 h2, trivial⟩
theorem plain35 : plainFn Tryd.prog 35 = true := by unfold plainFn; rw [Tryd.func35]; rfl
theorem heard0 {id : By} {gen now : Int} (h : (G.heard id gen now).2 = 0) : ∃ i, (G.heard id gen now).1.at_ id = some i := by
  unfold GG.heard at h ⊢
  simp only at h ⊢
  by_cases he : (G.goes now).fenceE id gen = 0
  · rw [if_pos he]
    simp only
    rw [at_ids (upd_ids (G.goes now) id (fun m => { m with heard := (G.goes now).now }) fun m => rfl)]
    unfold GG.fenceE at he
    cases hi : (G.goes now).at_ id with
    | none => rw [hi] at he; cases he
    | some i => exact ⟨i, rfl⟩
  · rw [if_neg he] at h
    exact absurd h he
theorem sync12 (h : IsG b s g G) (hb : Bd K G) (hk : K + 1 ≤ 1000000) (id : By) (gen : Int) {now : Int} (hn : now ≤ 1125899906842624) :
    HC Tryd.prog 12 [.ptr g 0, strV id, .lit (.int .i64 gen), .lit (.int .i64 now)] s (fun v t => IsG b t g (G.sync id gen now).1 ∧ ∃ o' : Option (List Slot), v = .tup [rowV slC 2 o', .lit (.int .i64 (G.sync id gen now).2.2)] ∧ o'.getD [] = (G.sync id gen now).2.1) := by
  refine HC12 ?_
  unfold c12
  refine (heardI h hb hk id gen hn).mono ?_
  rintro v t ⟨b1, all, A, ps, o, h1, h2, h3, rfl⟩
  simp only [vExtract, List.getElem?_cons_succ, List.getElem?_cons_zero, bindO, neq_24]
  have hb1 := hb.heard (id := id) (gen := gen) hk hn
  have h0 := heard0 (G := G) (id := id) (gen := gen) (now := now)
  unfold GG.sync
  generalize G.heard id gen now = r at *
  obtain ⟨G1, e⟩ := r
  simp only at *
  by_cases he : e = 0
  · subst he
    obtain ⟨i, hi⟩ := h0 rfl
    have hlt := at_lt h3 hi
    have hm := getD_memD p0 hlt
    simp only [decide_true, Bool.not_true, hcond, if_true, hi, ptrAt, hvNil, hvFld]
    refine store1 (h3.mem _ hm).2.1 (by simp [gmC]) (hc_bool _) (ho_bool _) rfl ?_
    have h4 := h3.updId hi (fun m => { m with synced := true })
    rw [show (gmC (ps.getD i p0).2).set 4 (.lit (.bool true)) = gmC { (ps.getD i p0).2 with synced := true } from rfl]
    have hb2 : Bd (K + 1) (G1.upd id fun m => { m with synced := true }) := hb1.upd _ _ fun m hm => hb1.mem m hm
    have ha2 := upd_all G1 id (fun m => { m with synced := true })
    generalize (G1.upd id fun m => { m with synced := true }) = G2 at *
    generalize (ps.set i _) = ps2 at *
    generalize t.set _ _ = t2 at *
    clear h3
    refine Join.of (fun xs u => GSt b1 u g (if G2.state = 3 ∧ G2.l.all (·.synced) = true then G2.enter 4 else G2) all A ps2 o) ?_ ?_
    · rintro _ u h5
      simp only [h5.ld, gC, List.getElem?_cons_succ, List.getElem?_cons_zero]
      have esh : (if G2.state = 3 ∧ G2.l.all (·.synced) = true then G2.enter 4 else G2).shares = G2.shares := by split <;> rfl
      have eall : (if G2.state = 3 ∧ G2.l.all (·.synced) = true then G2.enter 4 else G2).all = G2.all := by split <;> rfl
      have hosh := h4.sh
      have hbsh := hb2.sh
      rw [← hosh] at hbsh
      refine (of21 o id u (by omega) (fun d hd => by have := hbsh.2 d hd; omega)).mono ?_
      rintro v w ⟨rfl, o', rfl, ho'⟩
      refine ⟨h5.is h1 (by rw [eall, ha2]; exact h2), o', rfl, ?_⟩
      rw [ho', hosh]
    · intro K9 hK9
      refine Join.of (fun xs u => u = t2 ∧ xs = [.lit (.bool (decide (G2.state = 3) && G2.l.all (·.synced)))]) ?_ ?_
      · rintro _ u ⟨rfl, rfl⟩
        simp only [List.headD_cons]
        cases hc : decide (G2.state = 3) && G2.l.all (·.synced) with
        | true =>
          simp only [Bool.and_eq_true, decide_eq_true_eq] at hc
          simp only [hcond]
          refine (enter36 h4 4).mono ?_
          rintro v w ⟨h5, -⟩
          refine hK9 _ _ ?_
          rw [if_pos hc]
          exact h5
        | false =>
          simp only [hcond]
          refine hK9 _ _ ?_
          rw [if_neg (fun hh => by rw [decide_eq_true hh.1, hh.2] at hc; cases hc)]
          exact h4
      · intro K12 hK12
        simp only [h4.ld, gC, List.getElem?_cons_succ, List.getElem?_cons_zero, eql_n]
        by_cases hs : G2.state = 3
        · simp only [hs, decide_true]
          refine (each34 h4 (hb2.pslen h4) (·.synced) (fn := 35) (fcaps := []) (fun u hu x hx K hK => ?_)).mono ?_
          · have h5 := h4.mono hu
            simp only [hcall, hite_eq, plain35, if_true, List.append_nil]
            refine HC35 ?_
            unfold c35
            simp only [hvNil, hvFld, bindO, h5.ldm hx, gmC, List.getElem?_cons_succ, List.getElem?_cons_zero]
            exact hK
          · rintro v w ⟨rfl, rfl⟩
            exact hK12 _ _ ⟨rfl, by rw [hs]; rfl⟩
        · simp only [hs, decide_false]
          exact hK12 _ _ ⟨rfl, by simp [hs]⟩
  · simp only [he, decide_false, Bool.not_false, hcond, if_false]
    exact ⟨h3.is h1 h2, none, rfl, rfl⟩
theorem state14 (h : IsG b s g G) : HC Tryd.prog 14 [.ptr g 0] s (fun v t => t = s ∧ v = .lit (.int .i64 G.state)) := by
  obtain ⟨b1, all, A, ps, o, h1, h2, h3⟩ := h
  refine HC14 ?_
  unfold c14
  simp only [eqp23, bindO, hcond, hvNil, hvFld, h3.ld, gC, List.getElem?_cons_succ, List.getElem?_cons_zero]
  exact ⟨trivial, trivial⟩
theorem gen13 (h : IsG b s g G) : HC Tryd.prog 13 [.ptr g 0] s (fun v t => t = s ∧ v = .lit (.int .i64 G.gen)) := by
  obtain ⟨b1, all, A, ps, o, h1, h2, h3⟩ := h
  refine HC13 ?_
  unfold c13
  simp only [eqp23, bindO, hcond, hvNil, hvFld, h3.ld, gC, List.getElem?_cons_succ, List.getElem?_cons_zero]
  exact ⟨trivial, trivial⟩
end
end Go.Proofs.YtkcgokkgefgcjaaDoor.AS
end
section
namespace Go.Proofs.YtkcgokkgefgcjaaDoor.AS
open Go.Proofs.YtkcgokkgefgcjaaDoor.H Go.Proofs.YtkcgokkgefgcjaaDoor.G0
set_option linter.unusedVariables false
set_option linter.unusedSimpArgs false
set_option maxRecDepth 100000
section
variable {b s : HS} {g : Nat} {G : GG} {all A : HV} {ps : List (Nat × GM)} {o : Option DD} {K : Nat}
theorem dig1 : ∀ n : Fin 10, (ByteArray.mk #[48, 49, 50, 51, 52, 53, 54, 55, 56, 57, 97, 98, 99, 100, 101, 102, 103, 104, 105, 106, 107, 108, 109, 110, 111, 112, 113, 114, 115, 116, 117, 118, 119, 120, 121, 122]).extract n.val (n.val + 1) = ⟨#[UInt8.ofNat (48 + n.val)]⟩ := by decide +kernel
theorem dig2 : ∀ n : Fin 100, (ByteArray.mk #[48, 48, 48, 49, 48, 50, 48, 51, 48, 52, 48, 53, 48, 54, 48, 55, 48, 56, 48, 57, 49, 48, 49, 49, 49, 50, 49, 51, 49, 52, 49, 53, 49, 54, 49, 55, 49, 56, 49, 57, 50, 48, 50, 49, 50, 50, 50, 51, 50, 52, 50, 53, 50, 54, 50, 55, 50, 56, 50, 57, 51, 48, 51, 49, 51, 50, 51, 51, 51, 52, 51, 53, 51, 54, 51, 55, 51, 56, 51, 57, 52, 48, 52, 49, 52, 50, 52, 51, 52, 52, 52, 53, 52, 54, 52, 55, 52, 56, 52, 57, 53, 48, 53, 49, 53, 50, 53, 51, 53, 52, 53, 53, 53, 54, 53, 55, 53, 56, 53, 57, 54, 48, 54, 49, 54, 50, 54, 51, 54, 52, 54, 53, 54, 54, 54, 55, 54, 56, 54, 57, 55, 48, 55, 49, 55, 50, 55, 51, 55, 52, 55, 53, 55, 54, 55, 55, 55, 56, 55, 57, 56, 48, 56, 49, 56, 50, 56, 51, 56, 52, 56, 53, 56, 54, 56, 55, 56, 56, 56, 57, 57, 48, 57, 49, 57, 50, 57, 51, 57, 52, 57, 53, 57, 54, 57, 55, 57, 56, 57, 57]).extract (2 * n.val) (2 * n.val + 2) = ⟨#[UInt8.ofNat (48 + n.val / 10), UInt8.ofNat (48 + n.val % 10)]⟩ := by decide +kernel
theorem strC_len (x : By) : (strC x).length = 1 := rfl
theorem strSl (ba : ByteArray) {lo hi : Nat} (h1 : lo ≤ hi) (h2 : hi ≤ ba.size) : vStrSlice (.lit (.string ba)) (some (.lit (.int .i64 (lo : Int)))) (some (.lit (.int .i64 (hi : Int)))) = some (.lit (.string (ba.extract lo hi))) := by
  unfold vStrSlice cutAt
  simp only [intAt]
  rw [if_pos ⟨by omega, by omega, by omega, by simp⟩]
  simp
theorem itoa28 {n : Nat} (hn : n < 100) : HC Tryd.prog 28 [.lit (.int .i64 (n : Int))] s (fun v t => t = s ∧ v = strV (decL n)) := by
  refine HC28 ?_
  unfold c28
  refine HC48 ?_
  unfold c48
  refine HC59 ?_
  unfold c59
  simp only [eql_n, bindO, hcond, decide_true]
  refine Join.of (fun xs t => t = s ∧ xs = [.lit (.bool true)]) ?_ ?_
  rotate_left
  · intro K2 hK2
    simp only [leq_n, lss_n, show decide ((0 : Int) ≤ (n : Int)) = true from by simp, show decide ((n : Int) < 100) = true from by simp; omega]
    exact hK2 _ _ ⟨rfl, rfl⟩
  rintro _ t ⟨rfl, rfl⟩
  simp only [List.headD_cons]
  refine HC64 ?_
  unfold c64
  by_cases h : n < 10
  · simp only [lss_n, bindO, hcond, show decide ((n : Int) < 10) = true from by simp; omega]
    rw [show vBin .add (.lit (.int .i64 (n : Int))) (.lit (.int .i64 1)) = some (.lit (.int .i64 ((n + 1 : Nat) : Int))) from add_i (a := n) (b := 1) (by omega)]
    simp only
    rw [strSl _ (by omega) (by show n + 1 ≤ 36; omega), dig1 ⟨n, h⟩]
    simp only
    rw [decL_small h]
    exact ⟨trivial, rfl⟩
  · simp only [lss_n, bindO, hcond, show decide ((n : Int) < 10) = false from by simp; omega]
    rw [show vBin .mul (.lit (.int .i64 (n : Int))) (.lit (.int .i64 2)) = some (.lit (.int .i64 ((2 * n : Nat) : Int))) from by
      simp only [vBin, if_true]
      rw [w64 (by omega) (by omega)]
      congr 3
      omega]
    simp only
    rw [show vBin .add (.lit (.int .i64 ((2 * n : Nat) : Int))) (.lit (.int .i64 2)) = some (.lit (.int .i64 ((2 * n + 2 : Nat) : Int))) from add_i (a := 2 * n) (b := 2) (by omega)]
    simp only
    rw [strSl _ (by omega) (by show 2 * n + 2 ≤ 200; omega), dig2 ⟨n, hn⟩]
    simp only
    rw [decL_big h, decL_small (show n / 10 < 10 by omega)]
    exact ⟨trivial, rfl⟩
/-- slices.Equal over topics. -/
theorem equal29 (oa ob : Option (List By)) (s : HS) (hl : (oa.getD []).length ≤ 1000000000) : HC Tryd.prog 29 [rowV strC 1 oa, rowV strC 1 ob] s (fun v t => t = s ∧ v = .lit (.bool (decide (oa.getD [] = ob.getD [])))) := by
  refine HC29 ?_
  unfold c29
  have i1 := fun i hi => idx_rowV strC_len ([] : By) oa (i := i) hi
  have i2 := fun i hi => idx_rowV strC_len ([] : By) ob (i := i) hi
  rw [show vLenT (Tryd.prog.underlying 32) s (rowV strC 1 oa) = some (.lit (.int .i64 (((oa.getD []).length : Nat) : Int))) from len_rowV oa s, show vLenT (Tryd.prog.underlying 32) s (rowV strC 1 ob) = some (.lit (.int .i64 (((ob.getD []).length : Nat) : Int))) from len_rowV ob s]
  simp only [bindO]
  generalize oa.getD [] = la at *
  generalize ob.getD [] = lb at *
  rw [neq_n]
  by_cases hn : la.length = lb.length
  · simp only [hn, decide_true, Bool.not_true, hcond]
    rw [← hn]
    refine HLoop.ghost (σ := Nat) (fun i => [.lit (.int .i64 (i : Int))]) (fun i t => i ≤ la.length ∧ t = s ∧ la.take i = lb.take i) (fun i => la.length - i) 0 rfl ⟨Nat.zero_le _, rfl, by simp⟩ ?_
    rintro i t K ⟨h1, rfl, h3⟩ hK
    simp only [List.headD_cons, lss_i]
    by_cases hi : i < la.length
    · have la1 := take_succ' ([] : By) la hi
      have lb1 := take_succ' ([] : By) lb (by omega : i < lb.length)
      have d1 := drop_cons' ([] : By) la hi
      have d2 := drop_cons' ([] : By) lb (by omega : i < lb.length)
      have l0 : ∀ x : By, vLoad t (.elt (strC x) 0) 1 false = some (strV x) := fun x => rfl
      simp only [hi, decide_true, hcond, i1 i hi, i2 i (by omega), l0, neq_s]
      by_cases he : la.getD i [] = lb.getD i []
      · simp only [he, decide_true, Bool.not_true, inc_i hi (by omega)]
        exact hK (i + 1) _ _ rfl ⟨hi, rfl, by rw [la1, lb1, h3, he]⟩ (by omega)
      · simp only [he, decide_false, Bool.not_false]
        refine ⟨trivial, ?_⟩
        congr 2
        symm
        rw [decide_eq_false_iff_not]
        rintro rfl
        exact he rfl
    · obtain rfl : i = la.length := by omega
      simp only [hi, decide_false, hcond]
      refine ⟨trivial, ?_⟩
      rw [List.take_length, hn, List.take_length] at h3
      simp [h3]
  · simp only [hn, decide_false, Bool.not_false, hcond]
    refine ⟨trivial, ?_⟩
    congr 2
    symm
    rw [decide_eq_false_iff_not]
    rintro rfl
    exact hn rfl
/-- slices.Clone of topics. -/
theorem clone30 (o : Option (List By)) (s : HS) (hl : (o.getD []).length ≤ 1000000000) : HC Tryd.prog 30 [rowV strC 1 o] s (fun v t => t = s ∧ v = rowL strC 1 (o.getD [])) := by
  refine HC.up (Q := fun v t => t = s ∧ v = rowL strC 1 (o.getD [])) ?_
  refine HC.mono (Q := fun v t => ∃ o' : Option (List By), UpL [v] t [rowV strC 1 o'] s ∧ o'.getD [] = o.getD []) ?_ ?_
  rotate_left
  · rintro v t ⟨o', h1, h2⟩
    refine ⟨rowL strC 1 (o.getD []), s, ?_, rfl, rfl⟩
    rw [← h2]
    cases o' with
    | some l => exact h1
    | none => exact h1.trans (up_lit_nil 1 (le_refl' s))
  cases o with
  | none =>
    refine HC30 ?_
    unfold c30
    exact ⟨none, UpL.refl _ _, rfl⟩
  | some l =>
    have hgo : HC Tryd.prog 30 [.ne 1] s (fun v t => l = [] → ∃ o' : Option (List By), UpL [v] t [rowV strC 1 o'] s ∧ o'.getD [] = []) := by
      refine HC30 ?_
      unfold c30
      rw [show vCmp (Tryd.prog.underlying 32) .eql (.ne 1) (.lit (.slice none 0 0)) = some (.lit (.bool false)) from rfl]
      simp only [bindO, hcond]
      refine hBS0 fun id hid => ?_
      refine app_empty (b := s) (le_set_new _ (le_refl' s) hid) hid (set_at _ _ _) (x := .ne 1) (xs := []) (k := 0) rfl rfl rfl ⟨by omega, by omega⟩ fun A' t' k1 k2 _ => ⟨some [], acc0_upL k1 k2, rfl⟩
    cases l with
    | nil =>
      refine HC.nilOr (pre := []) (post := []) ?_ ?_
      · refine HC30 ?_
        unfold c30
        exact ⟨some [], UpL.trans (up_lit_nil 1 (le_refl' s)) (UpL.refl _ _), rfl⟩
      · exact hgo.mono fun v t h => h rfl
    | cons x l =>
      refine HC30 ?_
      unfold c30
      rw [show vCmp (Tryd.prog.underlying 32) .eql (rowV strC 1 (some (x :: l))) (.lit (.slice none 0 0)) = some (.lit (.bool false)) from rfl]
      simp only [bindO, hcond]
      refine hBS0 fun id hid => ?_
      simp only [Option.getD_some] at hl
      refine app_empty (b := s) (le_set_new _ (le_refl' s) hid) hid (set_at _ _ _) (x := rowV strC 1 (some (x :: l))) (xs := rows strC (x :: l)) (k := (x :: l).length) (lcells_rowL _ _) rfl (rows_len strC_len _) ⟨by omega, by omega⟩ fun A' t' k1 k2 => ⟨some (x :: l), acc0_upL k1 k2, rfl⟩
end
end Go.Proofs.YtkcgokkgefgcjaaDoor.AS
end
section
namespace Go.Proofs.YtkcgokkgefgcjaaDoor.AS
open Go.Proofs.YtkcgokkgefgcjaaDoor.H Go.Proofs.YtkcgokkgefgcjaaDoor.G0
set_option linter.unusedVariables false
set_option linter.unusedSimpArgs false
set_option maxRecDepth 100000
def ids (G : GG) : List By := G.l.map GM.id
def GG.new (session rebalance gen : Int) (round : Bool) : GG := ⟨session, rebalance, round, 1, gen, 0, 0, 0, [], [], []⟩
section
variable {b s : HS} {g : Nat} {G : GG} {all A : HV} {ps : List (Nat × GM)} {o : Option DD} {K : Nat}
theorem members11 (h : IsG b s g G) (hb : Bd K G) : HC Tryd.prog 11 [.ptr g 0] s (fun v t => t = s ∧ v = rowL strC 1 (ids G)) := by
  obtain ⟨b1, all, A, ps, o, h1, h2, h3⟩ := h
  have hl := hb.pslen h3
  refine HC.up (HC11 ?_)
  unfold c11
  have hA : ∀ u, vLenT (Tryd.prog.underlying 66) u A = some (.lit (.int .i64 (ps.length : Int))) := fun u => h3.acc.len _ _
  simp only [eqp23, bindO, hcond, hvNil, hvFld, h3.ld, gC, List.getElem?_cons_succ, List.getElem?_cons_zero, hA]
  have hids : ids G = ps.map fun p => p.2.id := by unfold ids; rw [h3.l, List.map_map]; rfl
  rw [hids]
  refine HLoop.ghost (σ := HV × Nat) (fun x => [x.1, .lit (.int .i64 (x.2 : Int))]) (fun x t => x.2 ≤ ps.length ∧ HS.le s t ∧ Acc s t 1 x.1 x.2 (rows strC ((ps.take x.2).map fun p => p.2.id))) (fun x => ps.length - x.2) (nilV, 0) rfl ⟨Nat.zero_le _, le_refl' s, Acc.nil _ _ _⟩ ?_
  rintro ⟨L, i⟩ t K' ⟨g1, g2, g3⟩ hK
  simp only at g1 g2 g3
  simp only [List.headD_cons, List.tail_cons, lss_i]
  by_cases hlt : i < ps.length
  · have h4 := h3.mono g2
    obtain ⟨q, -, x1, -, x2⟩ := h4.acc.at_ pC_len p0 .i64 hlt
    have x3 := x2 0 (by omega) 1
    rw [Nat.add_zero] at x3
    have hm := getD_memD p0 hlt
    have htk := take_succ' p0 ps hlt
    simp only [hlt, decide_true, x1, x3, pC, List.getElem?_cons_zero, hvNil, hvFld, h4.ldm hm, gmC]
    refine g3.app1 g2 (hc_string _) rfl rfl ⟨by omega, by omega⟩ fun L' w k1 k2 k3 => ?_
    simp only [inc_i hlt (by omega)]
    refine hK (L', i + 1) _ _ rfl ⟨hlt, k2, ?_⟩ (by show ps.length - (i + 1) < ps.length - i; omega)
    show Acc s w 1 L' (i + 1) (rows strC ((ps.take (i + 1)).map _))
    rw [htk, List.map_append, rows_app]
    exact k1
  · obtain rfl : i = ps.length := by omega
    rw [List.take_length] at g3
    simp only [hlt, decide_false]
    refine ⟨_, s, acc0_upL (.inl g3) g2, rfl, ?_⟩
    unfold rowL
    rw [List.length_map]
theorem new9 {session rebalance gen : Int} {round : Bool} (h1 : 1 ≤ session ∧ session ≤ 1000000) (h2 : 1 ≤ rebalance ∧ rebalance ≤ 1000000) (h3 : 0 ≤ gen ∧ gen ≤ 1099511627776) (s : HS) :
    HC Tryd.prog 9 [.lit (.int .i64 session), .lit (.int .i64 rebalance), .lit (.int .i64 gen), .lit (.bool round)] s (fun v t => ∃ q, s q = none ∧ v = .tup [.ptr q 0, .lit (.int .i64 0)] ∧ IsG s t q (GG.new session rebalance gen round)) := by
  refine HC9 ?_
  unfold c9
  refine Join.of (fun xs t => t = s ∧ xs = [.lit (.bool false)]) ?_ ?_
  rotate_left
  · intro K1 hK1
    simp only [lss_n, gtr_n, bindO, hcond, show decide (session < 1) = false from by simp; omega, show decide (1000000 < session) = false from by simp; omega, show decide (rebalance < 1) = false from by simp; omega, show decide (1000000 < rebalance) = false from by simp; omega, show decide (gen < 0) = false from by simp; omega, show decide (1099511627776 < gen) = false from by simp; omega]
    exact hK1 _ _ ⟨rfl, rfl⟩
  rintro _ t ⟨rfl, rfl⟩
  simp only [List.headD_cons, hcond]
  rw [show vMk [(0, 1), (1, 1), (2, 1), (3, 1), (4, 1), (5, 1), (6, 1), (7, 1), (8, 1), (9, 1), (10, 1)] [.lit (.int .i64 0), .lit (.int .i64 0), .lit (.bool false), .lit (.int .i64 0), .lit (.int .i64 0), .lit (.int .i64 0), .lit (.int .i64 0), .lit (.int .i64 0), .lit (.slice none 0 0), .lit (.slice none 0 0), .lit (.slice none 0 0)] [(0, .lit (.int .i64 session)), (1, .lit (.int .i64 rebalance)), (2, .lit (.bool round)), (3, (.lit (.int .i64 1))), (4, .lit (.int .i64 gen))] = some (.agg (gC (GG.new session rebalance gen round) nilV nilV none)) from rfl]
  simp only [bindO]
  refine hbox_intro (hc_agg _) fun q hq => ?_
  refine ⟨q, hq, rfl, t, nilV, nilV, [], none, le_refl' t, .inl ⟨rfl, rfl, rfl⟩, ⟨le_set_new _ (le_refl' t) hq, hq, set_at _ _ _, .inl ⟨rfl, rfl, rfl⟩, (by rintro ⟨⟩), (by rintro p ⟨⟩), List.nodup_nil, rfl, rfl⟩⟩
theorem new9_bad (s : HS) (round : Bool) (r g : Int) : HC Tryd.prog 9 [.lit (.int .i64 0), .lit (.int .i64 r), .lit (.int .i64 g), .lit (.bool round)] s (fun v t => t = s ∧ v = .tup [.lit (.pointer none), .lit (.int .i64 1)]) := by
  refine HC9 ?_
  unfold c9
  refine Join.of (fun xs t => t = s ∧ xs = [.lit (.bool true)]) ?_ ?_
  rotate_left
  · intro K1 hK1
    simp only [lss_n, bindO, hcond, show decide ((0 : Int) < 1) = true from rfl]
    exact hK1 _ _ ⟨rfl, rfl⟩
  rintro _ t ⟨rfl, rfl⟩
  simp only [List.headD_cons, hcond]
  exact ⟨trivial, trivial⟩
end
section
variable (s : HS)
end
end Go.Proofs.YtkcgokkgefgcjaaDoor.AS
end
section
namespace Go.Proofs.YtkcgokkgefgcjaaDoor.AS
open Go.Proofs.YtkcgokkgefgcjaaDoor.H Go.Proofs.YtkcgokkgefgcjaaDoor.G0
set_option linter.unusedVariables false
set_option linter.unusedSimpArgs false
set_option maxRecDepth 100000
namespace GG
def updAt (G : GG) (i : Nat) (f : GM → GM) : GG := { G with l := G.l.set i (f (G.l.getD i gm0)) }
def nm (G : GG) (id : By) : By := if id = [] then 109 :: decL (G.given + 1).toNat else id
def join2 (G : GG) (id : By) : GG := if id = [] then { G with given := G.given + 1, l := G.l ++ [⟨G.nm id, [], 0, false, false⟩] } else G
def joinI (G : GG) (id : By) : Nat := if id = [] then G.l.length else (G.at_ id).getD 0
noncomputable def join3 (G2 : GG) (i : Nat) (fresh : Bool) (tp : List By) : GG :=
  let G3 := G2.updAt i fun m => { m with heard := G2.now }
  if fresh = true ∨ G3.state = 2 ∨ (G3.l.getD i gm0).tp ≠ tp then
    let G4 := G3.updAt i fun m => { m with tp := tp }
    let G5 := if G4.state = 2 then G4 else G4.prepares
    (G5.updAt i fun m => { m with joined := true }).forms
  else G3
noncomputable def join1 (G1 : GG) (id : By) (tp : List By) : GG × By × Int × Int :=
  if 30 < tp.length then (G1, [], 0, 1)
  else if id = [] ∧ 20 ≤ G1.l.length then (G1, [], 0, 4)
  else if id ≠ [] ∧ G1.at_ id = none then (G1, [], 0, 13)
  else
    let G6 := (G1.join2 id).join3 (G1.joinI id) (decide (id = [])) tp
    (G6, G1.nm id, if G6.state = 2 then 0 else G6.gen, if G6.state = 2 then 14 else 0)
noncomputable def join (G : GG) (id : By) (tp : List By) (al : List Top) (now : Int) : GG × By × Int × Int := (G.tick al now).join1 id tp
end GG
section
variable {b s : HS} {g : Nat} {G : GG} {all A : HV} {ps : List (Nat × GM)} {o : Option DD} {K : Nat}
theorem Bd.updAt {i : Nat} (h : Bd K G) (f : GM → GM) (hf : ∀ m, 0 ≤ m.heard ∧ m.heard ≤ 1125899906842624 ∧ m.tp.length ≤ 1000000 → 0 ≤ (f m).heard ∧ (f m).heard ≤ 1125899906842624 ∧ (f m).tp.length ≤ 1000000) : Bd K (G.updAt i f) := by
  unfold GG.updAt
  refine ⟨h.now, h.since, fun m hm => ?_, h.gen, by show (G.l.set _ _).length ≤ K; rw [List.length_set]; exact h.len, h.all, h.sh, h.k⟩
  rcases List.mem_or_eq_of_mem_set (show m ∈ G.l.set i _ from hm) with hm | rfl
  · exact h.mem m hm
  · by_cases hi : i < G.l.length
    · exact hf _ (h.mem _ (getD_memD gm0 hi))
    · have : G.l.getD i gm0 = gm0 := by rw [List.getD, List.getElem?_eq_none (by omega)]; rfl
      rw [this]
      exact hf gm0 ⟨by decide, by decide, by decide⟩
theorem GSt.updAt (h : GSt b s g G all A ps o) {i : Nat} (hi : i < ps.length) (f : GM → GM) : GSt b (s.set (ps.getD i p0).1 (.cells (gmC (f (ps.getD i p0).2)))) g (G.updAt i f) all A (ps.set i ((ps.getD i p0).1, f (ps.getD i p0).2)) o := h.upd hi f
/-- A member is as it is, but for its topics perhaps. -/
structure Mid (b u : HS) (g : Nat) (G : GG) (all A : HV) (ps : List (Nat × GM)) (o : Option DD) (i : Nat) (tv : HV) : Prop where
  hi : i < ps.length
  cell : u (ps.getD i p0).1 = some (.cells ((gmC (ps.getD i p0).2).set 1 tv))
  set_ : ∀ m, GSt b (u.set (ps.getD i p0).1 (.cells (gmC m))) g { G with l := G.l.set i m } all A (ps.set i ((ps.getD i p0).1, m)) o
  l : G.l = ps.map Prod.snd
theorem Mid.at_ {u : HS} {i : Nat} {tv : HV} (h : Mid b u g G all A ps o i tv) : u g = some (.cells (gC G all A o)) := by
  have h1 := (h.set_ gm0).at_
  have h2 := (h.set_ gm0).mem ((ps.getD i p0).1, gm0) (List.mem_iff_getElem.2 ⟨i, by rw [List.length_set]; exact h.hi, by rw [List.getElem_set_self]⟩)
  rw [set_ne _ _ (Ne.symm h2.2.2.1)] at h1
  exact h1
theorem Mid.ne {u : HS} {i : Nat} {tv : HV} (h : Mid b u g G all A ps o i tv) : (ps.getD i p0).1 ≠ g :=
  ((h.set_ gm0).mem ((ps.getD i p0).1, gm0) (List.mem_iff_getElem.2 ⟨i, by rw [List.length_set]; exact h.hi, by rw [List.getElem_set_self]⟩)).2.2.1
theorem Mid.get {u : HS} {i : Nat} {tv : HV} (h : Mid b u g G all A ps o i tv) : G.l.getD i gm0 = (ps.getD i p0).2 := by
  rw [h.l, getD_get _ _ (by simpa using h.hi), getD_get _ _ h.hi, List.getElem_map]
theorem GSt.mid (h : GSt b s g G all A ps o) {i : Nat} (hi : i < ps.length) : Mid b s g G all A ps o i (rowL strC 1 (ps.getD i p0).2.tp) :=
  ⟨hi, (h.mem _ (getD_memD p0 hi)).2.1, fun m => by
    have := h.upd hi fun _ => m
    exact this, h.l⟩
theorem updAt_two (G : GG) (i : Nat) (f1 f2 : GM → GM) (hi : i < G.l.length) : (G.updAt i f1).updAt i f2 = G.updAt i fun m => f2 (f1 m) := by
  unfold GG.updAt
  simp only [List.set_set]
  rw [show (G.l.set i (f1 (G.l.getD i gm0))).getD i gm0 = f1 (G.l.getD i gm0) from by rw [getD_get _ _ (by rw [List.length_set]; exact hi), List.getElem_set_self]]
theorem prepares_ids (G : GG) : G.prepares.l.map GM.id = G.l.map GM.id := by
  unfold GG.prepares
  split
  · rfl
  · show (G.l.map _).map GM.id = _
    rw [List.map_map]
    rfl
theorem GSt.idAt (h : GSt b s g G all A ps o) {i : Nat} (hi : i < ps.length) : (G.l.map GM.id).getD i [] = (ps.getD i p0).2.id := by
  rw [h.l, getD_get _ _ (by simpa using hi), getD_get _ _ hi]
  simp
theorem fst_at {ps ps' : List (Nat × GM)} (h : ps'.map Prod.fst = ps.map Prod.fst) (i : Nat) : (ps'.getD i p0).1 = (ps.getD i p0).1 := by
  have : ∀ l : List (Nat × GM), (l.getD i p0).1 = (l.map Prod.fst).getD i 0 := fun l => by
    by_cases hi : i < l.length
    · rw [getD_get _ _ hi, getD_get _ _ (by simpa using hi), List.getElem_map]
    · rw [List.getD, List.getD, List.getElem?_eq_none (by omega), List.getElem?_eq_none (by simpa using hi)]
      rfl
  rw [this, this, h]
theorem addM (h : GSt b s g G all A ps o) {q : Nat} (hq : s q = none) (ob : HObj) {A' : HV} {t : HS} (hacc : AccX b t 1 A' (ps.length + 1) (rows pC ps ++ [.ptr q 0])) (hle : HS.le b t)
    (hk : ∀ k o', accId A ≠ some k → (s.set q ob) k = some o' → t k = some o' ∧ accId A' ≠ some k) (m : GM) (G' : GG) (hG : G'.l = G.l ++ [m]) (hsh : G'.shares = G.shares) :
    GSt b ((t.set g (.cells (gC G' all A' o))).set q (.cells (gmC m))) g G' all A' (ps ++ [(q, m)]) o := by
  have hne : ∀ k o', s k = some o' → k ≠ q := fun k o' hk' e => by rw [e, hq] at hk'; cases hk'
  have hgq := hne _ _ h.at_
  have hbq := none_of_le h.le hq
  have hAq : accId A ≠ some q := fun e => by obtain ⟨-, r, h2⟩ := h.acc.free e; rw [hq] at h2; cases h2
  have kg := hk g _ h.accg (by rw [set_ne _ _ hgq]; exact h.at_)
  have kq := hk q _ hAq (set_at _ _ _)
  refine ⟨le_set_free _ (le_set_free _ hle h.free) hbq, h.free, by rw [set_ne _ _ hgq]; exact set_at _ _ _, ?_, kg.2, fun p hp => ?_, ?_, ?_, ?_⟩
  · have : AccX b t 1 A' (ps ++ [(q, m)]).length (rows pC (ps ++ [(q, m)])) := by
      rw [List.length_append, rows_app, rows_one]
      exact hacc
    exact (this.put _ kg.2).put _ kq.2
  · rcases List.mem_append.1 hp with hp | hp
    · obtain ⟨h1, h2, h3, h4⟩ := h.mem p hp
      have hpq := hne _ _ h2
      have kp := hk p.1 _ h4 (by rw [set_ne _ _ hpq]; exact h2)
      exact ⟨h1, by rw [set_ne _ _ hpq, set_ne _ _ h3]; exact kp.1, h3, kp.2⟩
    · rw [List.mem_singleton.1 hp]
      exact ⟨hbq, set_at _ _ _, Ne.symm hgq, kq.2⟩
  · rw [List.map_append, List.nodup_append]
    refine ⟨h.nodup, by simp, fun x hx y hy => ?_⟩
    obtain ⟨p, hp, rfl⟩ := List.mem_map.1 hx
    simp only [List.map_cons, List.map_nil, List.mem_singleton] at hy
    subst hy
    exact hne _ _ (h.mem p hp).2.1
  · rw [hG, h.l, List.map_append]
    rfl
  · rw [hsh]; exact h.sh
theorem given_goes (G : GG) (now : Int) : (G.goes now).given = G.given := by
  have hp : ∀ G : GG, G.prepares.given = G.given := fun G => by unfold GG.prepares; split <;> rfl
  have hf : ∀ G : GG, G.forms.given = G.given := fun G => by
    unfold GG.forms GG.forms1
    simp only
    repeat' split
    all_goals rfl
  have h1 : ∀ G : GG, G.goes1.given = G.given := fun G => by
    unfold GG.goes1
    simp only
    rw [hf]
    repeat' split
    all_goals first | rfl | (show (GG.prepares _).given = _; rw [hp]; rfl)
  unfold GG.goes GG.goes2
  split
  · rw [hp]; exact h1 _
  · exact h1 _
theorem join3_all (G : GG) (i : Nat) (f : Bool) (tp : List By) : (G.join3 i f tp).all = G.all := by
  unfold GG.join3
  simp only
  split
  · rw [forms_all]
    show (if _ then _ else _ : GG).all = _
    split
    · rfl
    · rw [prepares_all]; rfl
  · rfl
theorem join2_all (G : GG) (id : By) : (G.join2 id).all = G.all := by unfold GG.join2; split <;> rfl
end
end Go.Proofs.YtkcgokkgefgcjaaDoor.AS
end
