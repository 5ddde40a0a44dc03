/- The map of keys as a sorted row, in plain words. -/
import Derived.Test.YtecnfekcflfihaaDN
import Derived.Sort.Walk0
/- The map of keys as a sorted row, in plain words. -/
namespace Go.Proofs.Ytecnfekcflfihaa.CL
open Go.Proofs.Ytecnfekcflfihaa.H
set_option linter.unusedVariables false
set_option linter.unusedSimpArgs false
abbrev By := List UInt8
abbrev bl_ (a b : By) : Bool := Op.bytesLess a b
theorem bl_irrefl : ∀ a : By, bl_ a a = false
  | [] => rfl
  | x :: a => by simp only [bl_, Op.bytesLess]; have := bl_irrefl a; simp [bl_] at this; simp [this]
theorem bl_tri : ∀ a b : By, bl_ a b = false → a = b ∨ bl_ b a = true
  | [], [], _ => .inl rfl
  | [], y :: b, h => by simp [bl_, Op.bytesLess] at h
  | x :: a, [], _ => .inr rfl
  | x :: a, y :: b, h => by
    simp only [bl_, Op.bytesLess, Bool.or_eq_false_iff, Bool.and_eq_false_iff, decide_eq_false_iff_not] at h
    obtain ⟨h1, h2⟩ := h
    by_cases e : x = y
    · subst e
      have h3 : bl_ a b = false := by rcases h2 with h | h; simp at h; exact h
      rcases bl_tri a b h3 with h | h
      · exact .inl (by rw [h])
      · refine .inr ?_
        simp only [bl_, Op.bytesLess, Bool.or_eq_true, Bool.and_eq_true, beq_self_eq_true, true_and]
        exact .inr h
    · refine .inr ?_
      simp only [bl_, Op.bytesLess, Bool.or_eq_true, decide_eq_true_eq]
      refine .inl ?_
      rcases UInt8.lt_or_lt_of_ne (a := x) (b := y) e with h | h
      · exact absurd h h1
      · exact h
theorem bl_trans : ∀ a b c : By, bl_ a b = true → bl_ b c = true → bl_ a c = true
  | _, b, [], _, h => by cases b <;> simp [bl_, Op.bytesLess] at h
  | _, [], z :: c, h, _ => by rename_i a; cases a <;> simp [bl_, Op.bytesLess] at h
  | [], y :: b, z :: c, _, _ => rfl
  | x :: a, y :: b, z :: c, h, k => by
    simp only [bl_, Op.bytesLess, Bool.or_eq_true, Bool.and_eq_true, decide_eq_true_eq, beq_iff_eq] at h k ⊢
    rcases h with h | ⟨rfl, h⟩ <;> rcases k with k | ⟨rfl, k⟩
    · exact .inl (UInt8.lt_trans h k)
    · exact .inl h
    · exact .inl k
    · exact .inr ⟨rfl, bl_trans a b c h k⟩
theorem bl_asymm {a b : By} (h : bl_ a b = true) : bl_ b a = false := by
  cases hb : bl_ b a with
  | false => rfl
  | true => have := bl_trans a b a h hb; rw [bl_irrefl] at this; cases this
/-- A key, a value, an offset. -/
structure Pr where
  key : Option (List Int)
  val : Option (List Int)
  off : Int
def p0 : Pr := ⟨none, none, 0⟩
def pk (p : Pr) : By := keyB p.key
/-- Sorted by their keys, each once. -/
def SortedP (l : List Pr) : Prop := l.Pairwise fun a b => bl_ (pk a) (pk b) = true
def findI (l : List Pr) (k : By) : Nat := (l.takeWhile fun p => bl_ (pk p) k).length
def findOk (l : List Pr) (k : By) : Bool := match l[findI l k]? with | some p => pk p == k | none => false
def putF (l : List Pr) (p : Pr) : List Pr := l.take (findI l (pk p)) ++ (p :: l.drop (if findOk l (pk p) then findI l (pk p) + 1 else findI l (pk p)))
theorem findI_le (l : List Pr) (k : By) : findI l k ≤ l.length := (List.takeWhile_sublist _).length_le
theorem findI_cons (x : Pr) (l : List Pr) (k : By) : findI (x :: l) k = if bl_ (pk x) k then findI l k + 1 else 0 := by
  unfold findI
  rw [List.takeWhile_cons]
  split <;> simp
theorem findOk_cons (x : Pr) (l : List Pr) (k : By) : findOk (x :: l) k = if bl_ (pk x) k then findOk l k else pk x == k := by
  unfold findOk
  rw [findI_cons]
  by_cases h : bl_ (pk x) k = true
  · simp only [h, if_true, List.getElem?_cons_succ]
  · simp only [h, if_false, List.getElem?_cons_zero, Bool.false_eq_true]
theorem putF_cons (x : Pr) (l : List Pr) (p : Pr) : putF (x :: l) p = if bl_ (pk x) (pk p) then x :: putF l p else if pk x == pk p then p :: l else p :: x :: l := by
  unfold putF
  rw [findI_cons, findOk_cons]
  by_cases h : bl_ (pk x) (pk p) = true
  · simp only [h, if_true]
    by_cases h2 : findOk l (pk p) = true <;> simp [h2]
  · simp only [h, if_false]
    cases h2 : (pk x == pk p) <;> simp
/-- What a row says of a key. -/
def look (l : List Pr) (k : By) : Option Pr := l.find? fun p => pk p == k
theorem look_cons (x : Pr) (l : List Pr) (k : By) : look (x :: l) k = if pk x == k then some x else look l k := by
  unfold look
  rw [List.find?_cons]
  split <;> simp_all
theorem look_none_of_lt {l : List Pr} {k : By} (h : ∀ p ∈ l, bl_ k (pk p) = true) : look l k = none := by
  unfold look
  rw [List.find?_eq_none]
  intro p hp
  have := h p hp
  simp only [beq_iff_eq]
  intro e
  rw [e, bl_irrefl] at this
  cases this
/-- Found is what is there. -/
theorem find_look : ∀ {l : List Pr} {k : By}, SortedP l → (findOk l k = true → findI l k < l.length ∧ look l k = some (l.getD (findI l k) p0) ∧ pk (l.getD (findI l k) p0) = k) ∧ (findOk l k = false → look l k = none)
  | [], k, h => ⟨fun h => by simp [findOk, findI] at h, fun _ => rfl⟩
  | x :: l, k, h => by
    unfold SortedP at h
    rw [List.pairwise_cons] at h
    obtain ⟨ih1, ih2⟩ := find_look (k := k) h.2
    rw [findOk_cons, findI_cons, look_cons]
    by_cases hx : bl_ (pk x) k = true
    · have hne : (pk x == k) = false := by
        cases e : (pk x == k) with
        | false => rfl
        | true => rw [eq_of_beq e, bl_irrefl] at hx; cases hx
      simp only [hx, if_true, hne, Bool.false_eq_true, if_false]
      refine ⟨fun h => ?_, ih2⟩
      obtain ⟨g1, g2, g3⟩ := ih1 h
      exact ⟨by simp; omega, by rw [g2]; simp [List.getD], by simpa [List.getD] using g3⟩
    · simp only [hx, Bool.false_eq_true, if_false]
      cases e : (pk x == k) with
      | true => exact ⟨fun _ => ⟨Nat.succ_pos _, by simp [List.getD], eq_of_beq e⟩, fun h => by cases h⟩
      | false =>
        refine ⟨fun h => (by cases h), fun _ => ?_⟩
        simp only [Bool.false_eq_true, if_false]
        have hlt : bl_ k (pk x) = true := by
          rcases bl_tri (pk x) k (by simpa using hx) with h' | h'
          · rw [h'] at e; simp at e
          · exact h'
        exact look_none_of_lt fun p hp => bl_trans _ _ _ hlt (h.1 p hp)
theorem look_put : ∀ (l : List Pr) (p : Pr) (q : By), SortedP l → look (putF l p) q = if pk p == q then some p else look l q
  | [], p, q, _ => by simp [putF, look_cons, findI]
  | x :: l, p, q, h => by
    unfold SortedP at h
    rw [List.pairwise_cons] at h
    rw [putF_cons]
    by_cases hx : bl_ (pk x) (pk p) = true
    · simp only [hx, if_true]
      rw [look_cons, look_put l p q h.2, look_cons]
      cases e1 : (pk x == q) <;> cases e2 : (pk p == q) <;> simp
      rw [eq_of_beq e1, eq_of_beq e2, bl_irrefl] at hx
      cases hx
    · simp only [hx, Bool.false_eq_true, if_false]
      cases e : (pk x == pk p) with
      | true =>
        simp only [if_true]
        rw [look_cons, look_cons]
        have := eq_of_beq e
        rw [this]
        cases (pk p == q) <;> simp
      | false =>
        simp only [Bool.false_eq_true, if_false]
        rw [look_cons]
theorem put_mem : ∀ {l : List Pr} {p q : Pr}, q ∈ putF l p → q = p ∨ q ∈ l
  | [], p, q, h => by simp [putF, findI] at h; exact .inl h
  | x :: l, p, q, h => by
    rw [putF_cons] at h
    split at h
    · rcases List.mem_cons.1 h with rfl | h
      · exact .inr List.mem_cons_self
      · rcases put_mem h with h | h
        · exact .inl h
        · exact .inr (List.mem_cons_of_mem _ h)
    · split at h
      · rcases List.mem_cons.1 h with rfl | h
        · exact .inl rfl
        · exact .inr (List.mem_cons_of_mem _ h)
      · rcases List.mem_cons.1 h with rfl | h
        · exact .inl rfl
        · exact .inr h
theorem put_sorted : ∀ {l : List Pr} {p : Pr}, SortedP l → SortedP (putF l p)
  | [], p, _ => by simp [putF, findI, SortedP]
  | x :: l, p, h => by
    have h0 := h
    unfold SortedP at h
    rw [List.pairwise_cons] at h
    rw [putF_cons]
    by_cases hx : bl_ (pk x) (pk p) = true
    · simp only [hx, if_true]
      unfold SortedP
      rw [List.pairwise_cons]
      refine ⟨fun q hq => ?_, put_sorted h.2⟩
      rcases put_mem hq with rfl | hq
      · exact hx
      · exact h.1 q hq
    · simp only [hx, Bool.false_eq_true, if_false]
      cases e : (pk x == pk p) with
      | true =>
        simp only [if_true]
        unfold SortedP
        rw [List.pairwise_cons, ← eq_of_beq e]
        exact h
      | false =>
        simp only [Bool.false_eq_true, if_false]
        have hlt : bl_ (pk p) (pk x) = true := by
          rcases bl_tri (pk x) (pk p) (by simpa using hx) with h' | h'
          · rw [h'] at e; simp at e
          · exact h'
        unfold SortedP
        rw [List.pairwise_cons]
        refine ⟨fun q hq => ?_, h0⟩
        rcases List.mem_cons.1 hq with rfl | hq
        · exact hlt
        · exact bl_trans _ _ _ hlt (h.1 q hq)
theorem putF_len : ∀ (l : List Pr) (p : Pr), SortedP l → (putF l p).length = if (look l (pk p)).isSome then l.length else l.length + 1
  | [], p, _ => by simp [putF, findI, look]
  | x :: l, p, h => by
    have h0 := h
    unfold SortedP at h
    rw [List.pairwise_cons] at h
    rw [putF_cons, look_cons]
    by_cases hx : bl_ (pk x) (pk p) = true
    · have hne : (pk x == pk p) = false := by
        cases e : (pk x == pk p) with
        | false => rfl
        | true => rw [eq_of_beq e, bl_irrefl] at hx; cases hx
      simp only [hx, if_true, hne, Bool.false_eq_true, if_false, List.length_cons, putF_len l p h.2]
      split <;> rfl
    · simp only [hx, Bool.false_eq_true, if_false]
      cases e : (pk x == pk p) with
      | true => simp
      | false =>
        have hlt : bl_ (pk p) (pk x) = true := by
          rcases bl_tri (pk x) (pk p) (by simpa using hx) with h' | h'
          · rw [h'] at e; simp at e
          · exact h'
        have : look l (pk p) = none := look_none_of_lt fun q hq => bl_trans _ _ _ hlt (h.1 q hq)
        simp [this]
end Go.Proofs.Ytecnfekcflfihaa.CL

/- The map of keys as a sorted row, over the H layer. -/
namespace Go.Proofs.Ytecnfekcflfihaa.CL
open Go.Proofs.Ytecnfekcflfihaa.H Go.Proofs.Ytecnfekcflfihaa.C4
set_option linter.unusedVariables false
set_option linter.unusedSimpArgs false
set_option maxRecDepth 100000
-- a literal of none, that grows
def Acc0 (b t : HS) (sz : Nat) (A : HV) (n : Nat) (cs : List HV) : Prop := Acc b t sz A n cs ∨ (n = 0 ∧ cs = [] ∧ ∃ q, b q = none ∧ A = .view q 0 sz 0 true ∧ t q = some (.cells []))
theorem hBS0 {t : HS} {sz : Nat} {K : HV → HS → Prop} (h : ∀ id, t id = none → K (.view id 0 sz 0 true) (t.set id (.cells []))) : hBS t sz 0 [] [] K := h
theorem Acc0.to {b t : HS} {sz : Nat} {A : HV} {n : Nat} {cs : List HV} (h : Acc0 b t sz A n cs) (hn : n ≠ 0) : Acc b t sz A n cs := by
  rcases h with h | ⟨h, -⟩
  · exact h
  · exact absurd h hn
theorem app_empty {b t : HS} {sz by_ q : Nat} {K : HV → HS → Prop} (hb : HS.le b t) (hq : b q = none) (ht : t q = some (.cells [])) {x : HV} {xs : List HV} {k : Nat} (hx : lcells t sz x = some xs) (hk : llen x = k) (hl : xs.length = k * sz)
    (hroom : room k by_) (hK : ∀ A' t', Acc0 b t' sz A' k xs → HS.le b t' → K A' t') : hAppend t sz by_ (.view q 0 sz 0 true) x K := by
  unfold hAppend
  rw [hx]
  simp only [hk, ht]
  refine ⟨by trivial, by simp, ?_⟩
  simp only [if_true]
  split
  · rename_i h0
    subst h0
    have : xs = [] := List.eq_nil_of_length_eq_zero (by rw [hl]; omega)
    subst this
    exact hK _ _ (.inr ⟨rfl, rfl, q, hq, rfl, ht⟩) hb
  · refine ⟨by rw [Nat.zero_add]; exact hroom, fun id hid => ?_⟩
    have e : (([] : List HV).drop 0).take (0 * sz) ++ xs = xs := by simp
    rw [e]
    exact hK _ _ (.inl (.inr ⟨id, _, none_of_le hb hid, by rw [Nat.zero_add], set_at _ _ _, hl, by omega⟩)) (le_set_new _ hb hid)
theorem Acc0.app1 {b t : HS} {sz by_ : Nat} {A : HV} {n : Nat} {cs zs : List HV} {K : HV → HS → Prop} (h : Acc0 b t sz A n cs) (hb : HS.le b t) {x : HV} {vs : List HV} (hx : hcells x = some vs) (hv : vs.length = sz) (hz : zs.length = sz)
    (hroom : room (n + 1) by_) (hK : ∀ A' t', Acc b t' sz A' (n + 1) (cs ++ vs) → HS.le b t' → K A' t') : hBS t sz 1 zs [(0, x)] (fun v s => hAppend s sz by_ A v K) := by
  rcases h with h | ⟨rfl, rfl, q, h1, rfl, h3⟩
  · exact h.app1 hb hx hv hz hroom fun A' t' g1 g2 _ => hK A' t' g1 g2
  · have hf : hfill (fun i => some (i * sz, sz)) zs [(0, x)] = some vs := by
      simp only [hfill, hx, Nat.zero_mul, Nat.zero_add, hv, hz, Nat.le_refl, and_self, if_true, List.take_zero, List.nil_append]
      rw [List.drop_of_length_le (by omega), List.append_nil]
    unfold hBS
    rw [hf]
    intro id hid
    refine app_empty (le_set_new _ hb hid) h1 (by rw [set_ne _ _ (ne_new h3 hid)]; exact h3) (xs := vs) (k := 1) (by simp [lcells, set_at, hv, List.take_of_length_le]) rfl (by omega) (by rwa [Nat.zero_add] at hroom) ?_
    intro A' t' g1 g2
    exact hK A' t' (by rw [List.nil_append, Nat.zero_add]; exact g1.to (by omega)) g2
-- find
theorem findI_lt : ∀ {l : List Pr} {k : By} {i : Nat}, i < findI l k → bl_ (pk (l.getD i p0)) k = true
  | [], k, i, h => by simp [findI] at h
  | x :: l, k, i, h => by
    rw [findI_cons] at h
    by_cases hx : bl_ (pk x) k = true
    · rw [if_pos hx] at h
      cases i with
      | zero => exact hx
      | succ i => exact findI_lt (l := l) (by omega)
    · rw [if_neg hx] at h; omega
theorem findI_at : ∀ {l : List Pr} {k : By}, findI l k < l.length → bl_ (pk (l.getD (findI l k) p0)) k = false
  | [], k, h => by simp at h
  | x :: l, k, h => by
    rw [findI_cons] at h ⊢
    by_cases hx : bl_ (pk x) k = true
    · rw [if_pos hx] at h ⊢
      exact findI_at (l := l) (by simpa using h)
    · rw [if_neg hx]
      simpa using hx
def prC (p : Pr) : List HV := [byV p.key, byV p.val, .lit (.int .i64 p.off)]
theorem prC_len (p : Pr) : (prC p).length = 3 := rfl
theorem pr0 (p : Pr) : (prC p)[0]? = some (byV p.key) := rfl
theorem pr2 (p : Pr) : (prC p)[2]? = some (.lit (.int .i64 p.off)) := rfl
theorem vIdx_prV (o : Option (List Pr)) (i : Nat) (hi : i < (o.getD []).length) : vIdx 3 (rowV prC 3 o) (.lit (.int .i64 i)) = some (.elt (prC ((o.getD []).getD i p0)) 0) := by
  cases o with
  | none => simp at hi
  | some l => exact idx_rowL prC_len p0 l .i64 hi
theorem len_prV (o : Option (List Pr)) (s : HS) : vLenT (Try.prog.underlying 64) s (rowV prC 3 o) = some (.lit (.int .i64 ((o.getD []).length : Nat))) := by cases o <;> rfl
theorem str_lt (a b : Option (List Int)) : Op.bytesLess (⟨(keyB a).toArray⟩ : ByteArray).toList (⟨(keyB b).toArray⟩ : ByteArray).toList = bl_ (keyB a) (keyB b) := by rw [toList_data, toList_data]
theorem find {s : HS} (o : Option (List Pr)) (k : Option (List Int)) (hl : (o.getD []).length ≤ 1000000) : HC Try.prog 61 [rowV prC 3 o, byV k] s (fun v s' => s' = s ∧ v = .tup [.lit (.int .i64 (findI (o.getD []) (keyB k))), .lit (.bool (findOk (o.getD []) (keyB k)))]) := by
  refine HC61 ?_
  unfold c61
  refine HLoop.ghost (σ := Nat) (fun i => [.lit (.int .i64 i)]) (fun i t => i ≤ findI (o.getD []) (keyB k) ∧ t = s) (fun i => (o.getD []).length - i) 0 rfl ⟨Nat.zero_le _, rfl⟩ ?_
  rintro i t K ⟨hi, rfl⟩ hK
  have hle := findI_le (o.getD []) (keyB k)
  simp only [bindO, hcond, vCmp, vBin, vUn, vExtract, if_true, List.headD_cons, List.tail_cons, Bool.not_true, Bool.not_false, len_prV]
  refine Join.of (fun xs s' => s' = t ∧ xs = [.lit (.bool (decide (i < (o.getD []).length) && bl_ (pk ((o.getD []).getD i p0)) (keyB k)))]) ?_ ?_
  rotate_left
  · intro K4 hK4
    by_cases hlt : i < (o.getD []).length
    · have hlt' : (i : Int) < ((o.getD []).length : Int) := by omega
      have hix := vIdx_prV o i hlt
      simp only [hlt', decide_true, hix, field_elt, load_elt1, Nat.zero_add, pr0, isStr_by, Bool.false_eq_true, if_false, toStr_by, kv, str_lt]
      exact hK4 _ _ ⟨rfl, by simp [hlt, pk]⟩
    · have hlt' : ¬ (i : Int) < ((o.getD []).length : Int) := by omega
      simp only [hlt', decide_false]
      exact hK4 _ _ ⟨rfl, by simp [hlt]⟩
  rintro xs s' ⟨rfl, rfl⟩
  simp only [bindO, hcond, vCmp, vBin, vUn, vExtract, if_true, List.headD_cons, List.tail_cons, Bool.not_true, Bool.not_false]
  cases hgo : (decide (i < (o.getD []).length) && bl_ (pk ((o.getD []).getD i p0)) (keyB k)) with
  | true =>
    have h1 : i < (o.getD []).length := by simp at hgo; exact hgo.1
    have h2 : bl_ (pk ((o.getD []).getD i p0)) (keyB k) = true := by simp at hgo; exact hgo.2
    have h3 : i ≠ findI (o.getD []) (keyB k) := by
      intro e
      have := findI_at (l := o.getD []) (k := keyB k) (by omega)
      rw [← e, h2] at this
      cases this
    exact hK (i + 1) _ _ (by rw [w64 (by omega) (by omega)]; rfl) ⟨by omega, rfl⟩ (by omega)
  | false =>
    have h3 : i = findI (o.getD []) (keyB k) := by
      rcases Nat.lt_or_ge i (findI (o.getD []) (keyB k)) with h | h
      · have h4 := findI_lt h
        rw [h4] at hgo
        simp at hgo
        omega
      · omega
    subst h3
    simp only []
    by_cases hlt : findI (o.getD []) (keyB k) < (o.getD []).length
    · have hlt' : (findI (o.getD []) (keyB k) : Int) < ((o.getD []).length : Int) := by omega
      have hix := vIdx_prV o _ hlt
      have hok : findOk (o.getD []) (keyB k) = sameB' ((o.getD []).getD (findI (o.getD []) (keyB k)) p0).key k := by
        unfold findOk
        simp only [List.getElem?_eq_getElem hlt]
        simp [sameB', pk, List.getD, hlt]
      simp only [hlt', decide_true, hix, field_elt, load_elt1, Nat.zero_add, pr0, isStr_by, Bool.false_eq_true, if_false, toStr_by, kv, str_eq, ← hok, true_and]
    · have hlt' : ¬ (findI (o.getD []) (keyB k) : Int) < ((o.getD []).length : Int) := by omega
      have hok : findOk (o.getD []) (keyB k) = false := by
        unfold findOk
        rw [List.getElem?_eq_none (by omega)]
      simp only [hlt', decide_false, hok, true_and]
theorem take_drop_len (l : List Pr) (i : Nat) (h : i ≤ l.length) : (l.take i).length = i := by rw [List.length_take]; omega
theorem hc_prC (p : Pr) : hcells (.agg (prC p)) = some (prC p) := rfl
theorem slice_prV_hi (o : Option (List Pr)) {hi : Nat} (h : hi ≤ (o.getD []).length) : ∃ x, vSlice 3 (rowV prC 3 o) none (some (.lit (.int .i64 hi))) none = some x ∧ (∀ s, lcells s 3 x = some (rows prC ((o.getD []).take hi))) ∧ llen x = hi := by
  cases o with
  | none =>
    simp at h
    subst h
    exact ⟨nilV, rfl, fun s => rfl, rfl⟩
  | some l => exact ⟨_, slice_rowL_hi prC_len l .i64 h, fun s => lcells_rowL _ s, by rw [llen_rowL]; exact take_drop_len l hi h⟩
theorem slice_prV_lo (o : Option (List Pr)) {lo : Nat} (h : lo ≤ (o.getD []).length) : ∃ x, vSlice 3 (rowV prC 3 o) (some (.lit (.int .i64 lo))) none none = some x ∧ (∀ s, lcells s 3 x = some (rows prC ((o.getD []).drop lo))) ∧ llen x = ((o.getD []).drop lo).length := by
  cases o with
  | none =>
    simp at h
    subst h
    exact ⟨nilV, rfl, fun s => rfl, rfl⟩
  | some l => exact ⟨_, slice_rowL_lo prC_len l .i64 h, fun s => lcells_rowL _ s, llen_rowL _⟩
theorem load_prC {t : HS} {q : Nat} {p : Pr} (h : t q = some (.cells (prC p))) : vLoad t (.ptr q 0) 3 true = some (.agg (prC p)) := by
  simp only [vLoad, h, takeCells, if_true, Nat.zero_add, prC_len, Nat.le_refl, List.drop_zero]
  rfl
theorem refPut {s : HS} (o : Option (List Pr)) (p : Pr) (hl : (o.getD []).length ≤ 1000000) : HC Try.prog 60 [rowV prC 3 o, .agg (prC p)] s (fun v s' => s' = s ∧ v = rowL prC 3 (putF (o.getD []) p)) := by
  refine HC.up (HC60 ?_)
  unfold c60 hBox
  rw [hc_prC]
  intro p1 hp1
  have htp := set_at s p1 (.cells (prC p))
  have hst := le_set_new (.cells (prC p)) (le_refl' s) hp1
  generalize s.set p1 (.cells (prC p)) = t at *
  simp only [bindO, hcond, vCmp, vBin, vUn, vExtract, if_true, List.headD_cons, List.tail_cons, Bool.not_true, Bool.not_false, vField, Nat.zero_add, vLoad, htp, takeCells, Bool.false_eq_true, if_false, pr0]
  refine (find o p.key hl).mono ?_
  rintro v t1 ⟨rfl, rfl⟩
  have hle := findI_le (o.getD []) (keyB p.key)
  obtain ⟨x1, e1, e2, e3⟩ := slice_prV_hi o hle
  simp only [bindO, hcond, vCmp, vBin, vUn, vExtract, if_true, List.headD_cons, List.tail_cons, Bool.not_true, Bool.not_false, List.getElem?_cons_zero, List.getElem?_cons_succ]
  refine hBS0 fun q hq => ?_
  have hqn := none_of_le hst hq
  simp only [e1]
  refine app_empty (b := t1) (le_set_new _ (le_refl' t1) hq) hq (set_at _ _ _) (e2 _) e3 (by rw [rows_len prC_len, take_drop_len _ _ hle]) ⟨by omega, by omega⟩ ?_
  intro A s2 h2 hl2
  have hp2 := hl2 _ _ htp
  have hcp : (prC p).take 3 = prC p := rfl
  simp only [hp2, prC_len, Nat.le_refl, if_true, List.drop_zero, hcp]
  refine h2.app1 hl2 (hc_prC p) rfl rfl ⟨by omega, by omega⟩ ?_
  intro A3 s3 h3 hl3
  refine Join.of (fun xs s' => s' = s3 ∧ xs = [.lit (.int .i64 ((if findOk (o.getD []) (keyB p.key) then findI (o.getD []) (keyB p.key) + 1 else findI (o.getD []) (keyB p.key) : Nat)))]) ?_ ?_
  rotate_left
  · intro K hK
    cases hok : findOk (o.getD []) (keyB p.key) with
    | true =>
      simp only []
      refine hK _ _ ⟨rfl, ?_⟩
      rw [w64 (by omega) (by omega), hok]; rfl
    | false =>
      simp only []
      refine hK _ _ ⟨rfl, ?_⟩
      rw [hok]; rfl
  rintro xs s4 ⟨rfl, rfl⟩
  have hlo : (if findOk (o.getD []) (keyB p.key) then findI (o.getD []) (keyB p.key) + 1 else findI (o.getD []) (keyB p.key) : Nat) ≤ (o.getD []).length := by
    split
    · rename_i hok
      unfold findOk at hok
      split at hok
      · rename_i z hz
        have := (List.getElem?_eq_some_iff.1 hz).1
        omega
      · cases hok
    · exact hle
  obtain ⟨x2, f1, f2, f3⟩ := slice_prV_lo o hlo
  simp only [bindO, hcond, vCmp, vBin, vUn, vExtract, if_true, List.headD_cons, List.tail_cons, Bool.not_true, Bool.not_false, f1]
  refine h3.app hl3 (f2 _) f3 (by rw [rows_len prC_len]) ⟨by rw [List.length_drop]; omega, by rw [List.length_drop]; omega⟩ ?_
  intro A5 s5 h5 hl5 _
  refine ⟨_, s, (h5.up hl5).trans (UpL.le _ hst), rfl, ?_⟩
  have hput : putF (o.getD []) p = (o.getD []).take (findI (o.getD []) (keyB p.key)) ++ (p :: (o.getD []).drop (if findOk (o.getD []) (keyB p.key) then findI (o.getD []) (keyB p.key) + 1 else findI (o.getD []) (keyB p.key))) := rfl
  have hcs : rows prC ((o.getD []).take (findI (o.getD []) (keyB p.key))) ++ prC p ++ rows prC ((o.getD []).drop (if findOk (o.getD []) (keyB p.key) then findI (o.getD []) (keyB p.key) + 1 else findI (o.getD []) (keyB p.key))) = rows prC (putF (o.getD []) p) := by
    rw [hput, rows_app, rows_cons, List.append_assoc]
  have hn : findI (o.getD []) (keyB p.key) + 1 + ((o.getD []).drop (if findOk (o.getD []) (keyB p.key) then findI (o.getD []) (keyB p.key) + 1 else findI (o.getD []) (keyB p.key))).length = (putF (o.getD []) p).length := by
    rw [hput, List.length_append, List.length_cons, take_drop_len _ _ hle]; omega
  unfold accV
  rw [if_neg (by omega), hcs, hn]
  rfl
end Go.Proofs.Ytecnfekcflfihaa.CL

/- The document's own cleaning, over the H layer: the map that it builds. -/
namespace Go.Proofs.Ytecnfekcflfihaa.CL
open Go.Proofs.Ytecnfekcflfihaa.H Go.Proofs.Ytecnfekcflfihaa.C4
set_option linter.unusedVariables false
set_option linter.unusedSimpArgs false
set_option maxRecDepth 100000
/-- The sorted row says what the map says. -/
structure RM (o : Option (List Pr)) (g : (Value → Option Int) × Nat) : Prop where
  sorted : SortedP (o.getD [])
  val : ∀ k : Option (List Int), g.1 (kv k) = (look (o.getD []) (keyB k)).map (·.off)
  num : g.2 = (o.getD []).length
theorem RM.start : RM none (fun _ => none, 0) := ⟨by simp [SortedP], fun _ => rfl, rfl⟩
theorem keyB_kv {a b : Option (List Int)} : (keyB a == keyB b) = true ↔ kv a = kv b := (kv_same a b).symm
theorem RM.put {o : Option (List Pr)} {g : (Value → Option Int) × Nat} (h : RM o g) (k : Option (List Int)) (x : Int) (n : Nat) (hn : n = if (look (o.getD []) (keyB k)).isSome then g.2 else g.2 + 1) : RM (some (putF (o.getD []) ⟨k, none, x⟩)) (put g.1 (kv k) x, n) := by
  refine ⟨put_sorted h.sorted, fun q => ?_, ?_⟩
  · show CL.put g.1 (kv k) x (kv q) = (look (putF (o.getD []) ⟨k, none, x⟩) (keyB q)).map (·.off)
    rw [look_put _ _ _ h.sorted]
    show _ = (if keyB k == keyB q then some _ else look (o.getD []) (keyB q)).map (·.off)
    unfold CL.put
    cases e : (keyB k == keyB q) with
    | true =>
      rw [if_pos (keyB_kv.1 e).symm]; rfl
    | false =>
      rw [if_neg (fun hc => by rw [keyB_kv.2 hc.symm] at e; cases e)]
      exact h.val q
  · show n = (putF (o.getD []) ⟨k, none, x⟩).length
    rw [putF_len _ _ h.sorted, hn, h.num]
    rfl
/-- An offer, whether there is room or not. -/
theorem RM.offer {W : Int} {o : Option (List Pr)} {g : (Value → Option Int) × Nat} (h : RM o g) (k : Option (List Int)) (x : Int) :
    RM (if ((look (o.getD []) (keyB k)).isSome || decide ((g.2 : Int) < W)) = true then some (putF (o.getD []) ⟨k, none, match look (o.getD []) (keyB k) with | some p => max x p.off | none => x⟩) else o) (offF W g (kv k) x) := by
  have hv := h.val k
  unfold offF
  cases hl : look (o.getD []) (keyB k) with
  | some p =>
    rw [hl] at hv
    simp only [Option.isSome_some, Bool.true_or, if_true, hv, Option.map_some]
    exact h.put k _ _ (by rw [hl]; rfl)
  | none =>
    rw [hl] at hv
    simp only [Option.isSome_none, Bool.false_or, hv, Option.map_none]
    by_cases hr : W ≤ (g.2 : Int)
    · rw [if_pos hr, if_neg (by simp; omega)]
      exact h
    · rw [if_neg hr, if_pos (by simp; omega)]
      exact h.put k _ _ (by rw [hl]; rfl)
def rmO (W : Int) (o : Option (List Pr)) : HObj := .cells [.lit (.int .i64 W), rowV prC 3 o]
theorem refOffer {s : HS} {q : Nat} {W : Int} {o : Option (List Pr)} {g : (Value → Option Int) × Nat} (hq : s q = some (rmO W o)) (h : RM o g) (hl : (o.getD []).length ≤ 1000000) (k : Option (List Int)) (x : Int) :
    HC Try.prog 53 [.ptr q 0, byV k, .lit (.int .i64 x)] s (fun v s' => ∃ o', v = .lit (.bool ((look (o.getD []) (keyB k)).isSome || decide ((g.2 : Int) < W))) ∧ s' = s.set q (rmO W o') ∧ RM o' (offF W g (kv k) x)) := by
  refine HC53 ?_
  have hO := h.offer (W := W) k x
  obtain ⟨hf1, hf2⟩ := find_look (k := keyB k) h.sorted
  have hnum := h.num
  unfold rmO at hq
  have c0 : [HV.lit (.int .i64 W), rowV prC 3 o][0]? = some (.lit (.int .i64 W)) := rfl
  have c1 : [HV.lit (.int .i64 W), rowV prC 3 o][1]? = some (rowV prC 3 o) := rfl
  simp only [c53, bindO, hcond, vCmp, vBin, vUn, vExtract, if_true, List.headD_cons, List.tail_cons, Bool.not_true, Bool.not_false, vNil, vField, Nat.zero_add, vLoad, hq, takeCells, Bool.false_eq_true, if_false, c1]
  refine (find o k hl).mono ?_
  rintro v t ⟨rfl, rfl⟩
  simp only [bindO, hcond, vCmp, vBin, vUn, vExtract, if_true, List.headD_cons, List.tail_cons, Bool.not_true, Bool.not_false, List.getElem?_cons_zero, List.getElem?_cons_succ]
  cases hok : findOk (o.getD []) (keyB k) with
  | true =>
    obtain ⟨f1, f2, f3⟩ := hf1 hok
    rw [f2] at hO ⊢
    simp only [Option.isSome_some, Bool.true_or, if_true] at hO ⊢
    refine Join.of (fun xs s' => s' = t ∧ xs = [.lit (.bool false)]) ?_ ?_
    rotate_left
    · intro K hK
      simp only [Bool.not_true]
      exact hK _ _ ⟨rfl, rfl⟩
    rintro xs s1 ⟨rfl, rfl⟩
    simp only [bindO, hcond, vCmp, vBin, vUn, vExtract, if_true, List.headD_cons, List.tail_cons, Bool.not_true, Bool.not_false]
    refine Join.of (fun xs s' => s' = s1 ∧ xs = [.lit (.int .i64 (max x ((o.getD []).getD (findI (o.getD []) (keyB k)) p0).off))]) ?_ ?_
    rotate_left
    · intro K hK
      simp only [hq, c1, vIdx_prV o _ f1, field_elt, load_elt1, Nat.zero_add, pr2, hfold, vMax2, Option.bind_some]
      refine hK _ _ ⟨rfl, ?_⟩
      rw [show (if ((o.getD []).getD (findI (o.getD []) (keyB k)) p0).off > x then ((o.getD []).getD (findI (o.getD []) (keyB k)) p0).off else x) = max x ((o.getD []).getD (findI (o.getD []) (keyB k)) p0).off by omega]
    rintro xs s2 ⟨rfl, rfl⟩
    have hmk : ∀ y : Int, vMk [(0, 1), (1, 1), (2, 1)] [.lit (.slice none 0 0), .lit (.slice none 0 0), .lit (.int .i64 0)] [(0, byV k), (2, .lit (.int .i64 y))] = some (.agg (prC ⟨k, none, y⟩)) := fun y => by
        show _ = some (HV.agg [byV k, .lit (.slice none 0 0), .lit (.int .i64 y)])
        simp [vMk, hfill, hc_by, hc_int]
    simp only [bindO, hcond, vCmp, vBin, vUn, vExtract, if_true, List.headD_cons, List.tail_cons, Bool.not_true, Bool.not_false, hq, c1, hmk]
    refine (refPut o _ hl).mono ?_
    rintro v s3 ⟨rfl, rfl⟩
    simp only [hStore, hc_rowL, hq]
    refine ⟨by trivial, by simp, by simp [ho_rowL], _, by trivial, ?_, hO⟩
    rfl
  | false =>
    have f2 := hf2 hok
    rw [f2] at hO ⊢
    simp only [Option.isSome_none, Bool.false_or] at hO ⊢
    refine Join.of (fun xs s' => s' = t ∧ xs = [.lit (.bool (decide (W ≤ (g.2 : Int))))]) ?_ ?_
    rotate_left
    · intro K hK
      simp only [Bool.not_false, hq, c0, c1, len_prV, ge_iff_le]
      refine hK _ _ ⟨rfl, by rw [hnum]⟩
    rintro xs s1 ⟨rfl, rfl⟩
    simp only [bindO, hcond, vCmp, vBin, vUn, vExtract, if_true, List.headD_cons, List.tail_cons, Bool.not_true, Bool.not_false]
    by_cases hr : W ≤ (g.2 : Int)
    · rw [if_neg (by simp; omega)] at hO
      have hr' : ¬ (g.2 : Int) < W := by omega
      simp only [hr, hr', decide_true, decide_false]
      refine ⟨o, by trivial, ?_, hO⟩
      funext z
      simp only [HS.set]
      split
      · rename_i e; rw [e, hq]; rfl
      · rfl
    · have hr' : (g.2 : Int) < W := by omega
      rw [if_pos (by simp; omega)] at hO
      simp only [hr, hr', decide_true, decide_false]
      refine Join.of (fun xs s' => s' = s1 ∧ xs = [.lit (.int .i64 x)]) ?_ ?_
      rotate_left
      · intro K hK
        exact hK _ _ ⟨rfl, rfl⟩
      rintro xs s2 ⟨rfl, rfl⟩
      have hmk : ∀ y : Int, vMk [(0, 1), (1, 1), (2, 1)] [.lit (.slice none 0 0), .lit (.slice none 0 0), .lit (.int .i64 0)] [(0, byV k), (2, .lit (.int .i64 y))] = some (.agg (prC ⟨k, none, y⟩)) := fun y => by
        show _ = some (HV.agg [byV k, .lit (.slice none 0 0), .lit (.int .i64 y)])
        simp [vMk, hfill, hc_by, hc_int]
      simp only [bindO, hcond, vCmp, vBin, vUn, vExtract, if_true, List.headD_cons, List.tail_cons, Bool.not_true, Bool.not_false, hq, c1, hmk]
      refine (refPut o _ hl).mono ?_
      rintro v s3 ⟨rfl, rfl⟩
      simp only [hStore, hc_rowL, hq]
      refine ⟨by trivial, by simp, by simp [ho_rowL], _, by trivial, ?_, hO⟩
      rfl
theorem refLast {s : HS} {q : Nat} {W : Int} {o : Option (List Pr)} {g : (Value → Option Int) × Nat} (hq : s q = some (rmO W o)) (h : RM o g) (hl : (o.getD []).length ≤ 1000000) (k : Option (List Int)) :
    HC Try.prog 56 [.ptr q 0, byV k] s (fun v s' => s' = s ∧ v = .tup [.lit (.int .i64 ((g.1 (kv k)).getD 0)), .lit (.bool (g.1 (kv k)).isSome)]) := by
  refine HC56 ?_
  obtain ⟨hf1, hf2⟩ := find_look (k := keyB k) h.sorted
  have hv := h.val k
  unfold rmO at hq
  have c1 : [HV.lit (.int .i64 W), rowV prC 3 o][1]? = some (rowV prC 3 o) := rfl
  simp only [c56, bindO, hcond, vCmp, vBin, vUn, vExtract, if_true, List.headD_cons, List.tail_cons, Bool.not_true, Bool.not_false, vNil, vField, Nat.zero_add, vLoad, hq, takeCells, Bool.false_eq_true, if_false, c1]
  refine (find o k hl).mono ?_
  rintro v t ⟨rfl, rfl⟩
  simp only [bindO, hcond, vCmp, vBin, vUn, vExtract, if_true, List.headD_cons, List.tail_cons, Bool.not_true, Bool.not_false, List.getElem?_cons_zero, List.getElem?_cons_succ]
  cases hok : findOk (o.getD []) (keyB k) with
  | true =>
    obtain ⟨f1, f2, f3⟩ := hf1 hok
    rw [f2] at hv
    simp only [Bool.not_true, hq, c1, vIdx_prV o _ f1, field_elt, load_elt1, Nat.zero_add, pr2, hv, Option.map_some, Option.getD_some, Option.isSome_some]
    first | exact ⟨rfl, rfl⟩ | trivial
  | false =>
    have f2 := hf2 hok
    rw [f2] at hv
    simp only [Bool.not_false, hv, Option.map_none, Option.getD_none, Option.isSome_none]
    first | exact ⟨rfl, rfl⟩ | trivial
-- how many find room
open Classical in
noncomputable def DS (from_ : Int) : (Value → Prop) → List Rec → Nat
  | _, [] => 0
  | S, r :: l => if (r.hasKey = true ∧ from_ ≤ r.off) ∧ ¬ S (kv r.key) then 1 + DS from_ (fun q => S q ∨ q = kv r.key) l else DS from_ S l
theorem DS_cons (from_ : Int) (S : Value → Prop) (r : Rec) (l : List Rec) [Decidable ((r.hasKey = true ∧ from_ ≤ r.off) ∧ ¬ S (kv r.key))] : DS from_ S (r :: l) = if (r.hasKey = true ∧ from_ ≤ r.off) ∧ ¬ S (kv r.key) then 1 + DS from_ (fun q => S q ∨ q = kv r.key) l else DS from_ S l := by
  simp only [DS]
  split <;> rfl
open Classical in
theorem put_dom (M : Value → Option Int) (k q : Value) (x : Int) : (put M k x q).isSome = true ↔ (M q).isSome = true ∨ q = k := by
  unfold put
  split
  · rename_i e; simp [e]
  · rename_i e; simp [e]
open Classical in
theorem fresh_DS {from_ : Int} (M : Value → Option Int) : ∀ (l : List Rec) (g : (Value → Option Int) × Nat), (l.foldl (freshStep M from_) g).2 = g.2 + DS from_ (fun q => (M q).isSome = true ∨ (g.1 q).isSome = true) l
  | [], g => rfl
  | r :: l, g => by
    rw [List.foldl_cons, fresh_DS M l, DS_cons]
    by_cases he : r.hasKey = true ∧ from_ ≤ r.off
    · by_cases hM : (M (kv r.key)).isSome = true
      · have hf : isFresh M from_ r = false := by simp [isFresh, hM]
        have e1 : freshStep M from_ g r = g := by unfold freshStep; rw [hf]; rfl
        rw [if_neg (fun h => h.2 (.inl hM)), e1]
      · have hM0 : (M (kv r.key)).isSome = false := by simpa using hM
        have hf : isFresh M from_ r = true := by unfold isFresh; rw [hM0]; simp [he.1, he.2]
        have hg : freshStep M from_ g r = (put g.1 (kv r.key) (IntKind.i64.wrap ((g.1 (kv r.key)).getD 0 + 1)), if (g.1 (kv r.key)).isSome then g.2 else g.2 + 1) := by unfold freshStep; rw [hf]; rfl
        by_cases hgk : (g.1 (kv r.key)).isSome = true
        · rw [if_neg (fun h => h.2 (.inr hgk)), hg, if_pos hgk]
          have : (fun q => (M q).isSome = true ∨ (put g.1 (kv r.key) (IntKind.i64.wrap ((g.1 (kv r.key)).getD 0 + 1)) q).isSome = true) = fun q => (M q).isSome = true ∨ (g.1 q).isSome = true := by
            funext q
            apply propext
            rw [put_dom]
            constructor
            · rintro (h | h | rfl)
              · exact .inl h
              · exact .inr h
              · exact .inr hgk
            · rintro (h | h)
              · exact .inl h
              · exact .inr (.inl h)
          show g.2 + DS from_ (fun q => (M q).isSome = true ∨ (put g.1 (kv r.key) (IntKind.i64.wrap ((g.1 (kv r.key)).getD 0 + 1)) q).isSome = true) l = _
          rw [this]
        · rw [if_pos ⟨he, fun h => h.elim hM hgk⟩, hg, if_neg hgk]
          have : (fun q => (M q).isSome = true ∨ (put g.1 (kv r.key) (IntKind.i64.wrap ((g.1 (kv r.key)).getD 0 + 1)) q).isSome = true) = fun q => ((M q).isSome = true ∨ (g.1 q).isSome = true) ∨ q = kv r.key := by
            funext q
            apply propext
            rw [put_dom]
            constructor
            · rintro (h | h | h)
              · exact .inl (.inl h)
              · exact .inl (.inr h)
              · exact .inr h
            · rintro ((h | h) | h)
              · exact .inl h
              · exact .inr (.inl h)
              · exact .inr (.inr h)
          show g.2 + 1 + DS from_ (fun q => (M q).isSome = true ∨ (put g.1 (kv r.key) (IntKind.i64.wrap ((g.1 (kv r.key)).getD 0 + 1)) q).isSome = true) l = _
          rw [this, Nat.add_assoc]
    · have hf : isFresh M from_ r = false := by
        unfold isFresh
        cases h1 : r.hasKey with
        | false => rfl
        | true =>
          have : ¬ from_ ≤ r.off := fun h => he ⟨h1, h⟩
          simp [this]
      have e1 : freshStep M from_ g r = g := by unfold freshStep; rw [hf]; rfl
      rw [if_neg (fun h => he h.1), e1]
theorem offF_dom {W : Int} {g : (Value → Option Int) × Nat} {k : Value} {x : Int} (h : (g.1 k).isSome = true ∨ (g.2 : Int) < W) (q : Value) : ((offF W g k x).1 q).isSome = true ↔ (g.1 q).isSome = true ∨ q = k := by
  unfold offF
  split
  · exact put_dom _ _ _ _
  · rename_i hn
    rw [hn] at h
    rw [if_neg (by rcases h with h | h; cases h; omega)]
    exact put_dom _ _ _ _
theorem offF_num {W : Int} {g : (Value → Option Int) × Nat} {k : Value} {x : Int} (h : (g.1 k).isSome = true ∨ (g.2 : Int) < W) : (offF W g k x).2 = if (g.1 k).isSome then g.2 else g.2 + 1 := by
  unfold offF
  split
  · rename_i y hy; rw [hy]; rfl
  · rename_i hn
    rw [hn] at h ⊢
    rw [if_neg (by rcases h with h | h; cases h; omega)]
    rfl
open Classical in
/-- There is room for the first, and for the rest behind it. -/
theorem DS_step {W from_ : Int} {g : (Value → Option Int) × Nat} {r : Rec} {l : List Rec} (he : r.hasKey = true ∧ from_ ≤ r.off) (hg : (g.2 : Int) ≤ W) :
    (((g.2 + DS from_ (fun q => (g.1 q).isSome = true) (r :: l) : Nat) : Int) ≤ W ↔ ((g.1 (kv r.key)).isSome = true ∨ (g.2 : Int) < W) ∧ (((offF W g (kv r.key) r.off).2 + DS from_ (fun q => ((offF W g (kv r.key) r.off).1 q).isSome = true) l : Nat) : Int) ≤ W) := by
  rw [DS_cons]
  by_cases hk : (g.1 (kv r.key)).isSome = true
  · rw [if_neg (fun h => h.2 hk), offF_num (.inl hk), if_pos hk]
    have : (fun q => ((offF W g (kv r.key) r.off).1 q).isSome = true) = fun q => (g.1 q).isSome = true := by
      funext q
      apply propext
      rw [offF_dom (.inl hk)]
      exact ⟨fun h => h.elim id (by rintro rfl; exact hk), .inl⟩
    rw [this]
    exact ⟨fun h => ⟨.inl hk, h⟩, fun h => h.2⟩
  · rw [if_pos ⟨he, hk⟩]
    by_cases hr : (g.2 : Int) < W
    · rw [offF_num (.inr hr), if_neg hk]
      have : (fun q => ((offF W g (kv r.key) r.off).1 q).isSome = true) = fun q => (g.1 q).isSome = true ∨ q = kv r.key := by
        funext q
        apply propext
        exact offF_dom (.inr hr) q
      rw [this]
      exact ⟨fun h => ⟨.inr hr, by omega⟩, fun h => by have := h.2; omega⟩
    · exact ⟨fun h => by omega, fun h => (h.1.elim hk hr).elim⟩
end Go.Proofs.Ytecnfekcflfihaa.CL

