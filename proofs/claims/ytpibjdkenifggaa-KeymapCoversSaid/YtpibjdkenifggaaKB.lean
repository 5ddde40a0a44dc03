/- Maps of batches, in plain words: what is known behind the records that were offered. -/
import Derived.Test.YtpibjdkenifggaaKP
import Derived.Test.YtpibjdkenifggaaPKeymapCoversx0
namespace Go.Proofs.Ytpibjdkenifggaa.KM
open Go.RowKit Go.Maps Go.MapKept Go.ChangeMaps Go.WideElems Go.WideMaps Go.WideShapes Go.Proofs.YtpibjdkenifggaaW.PrintWords Go.Proofs.Ytpibjdkenifggaa.PKeymapCovers

theorem snoc_ind {α : Type} {P : List α → Prop} (h0 : P []) (hs : ∀ l x, P l → P (l ++ [x])) : ∀ l, P l := by
  intro l
  have key : ∀ m : List α, P m.reverse := by
    intro m
    induction m with
    | nil => exact h0
    | cons x m ih => rw [List.reverse_cons]; exact hs _ _ ih
  have := key l.reverse
  rwa [List.reverse_reverse] at this

def keysOf (R : List S42) : List (List Int) := R.foldl (fun acc r => if r.f3 ∈ acc then acc else acc ++ [r.f3]) []
theorem keysOf_snoc (R : List S42) (x : S42) : keysOf (R ++ [x]) = if x.f3 ∈ keysOf R then keysOf R else keysOf R ++ [x.f3] := by
  unfold keysOf
  rw [List.foldl_append]
  rfl
theorem mem_keysOf (R : List S42) (key : List Int) : key ∈ keysOf R ↔ ∃ r ∈ R, r.f3 = key := by
  refine snoc_ind (P := fun R => key ∈ keysOf R ↔ ∃ r ∈ R, r.f3 = key) (by simp [keysOf]) (fun R x ih => ?_) R
  rw [keysOf_snoc]
  by_cases h : x.f3 ∈ keysOf R
  · rw [if_pos h, ih]
    constructor
    · rintro ⟨r, hr, e⟩; exact ⟨r, by simp [hr], e⟩
    · rintro ⟨r, hr, e⟩
      rcases List.mem_append.1 hr with hr | hr
      · exact ⟨r, hr, e⟩
      · obtain rfl := List.mem_singleton.1 hr
        rw [← ih, ← e]; exact h
  · rw [if_neg h, List.mem_append, ih, List.mem_singleton]
    constructor
    · rintro (⟨r, hr, e⟩ | rfl)
      · exact ⟨r, by simp [hr], e⟩
      · exact ⟨x, by simp, rfl⟩
    · rintro ⟨r, hr, e⟩
      rcases List.mem_append.1 hr with hr | hr
      · exact .inl ⟨r, hr, e⟩
      · obtain rfl := List.mem_singleton.1 hr
        exact .inr e.symm
/-- The keys of more records: the elder ones, and behind them those that are new. -/
theorem keysOf_append (R S : List S42) : keysOf (R ++ S) = keysOf R ++ keysOf (S.filter (fun x => decide (x.f3 ∉ keysOf R))) := by
  refine snoc_ind (P := fun S => keysOf (R ++ S) = keysOf R ++ keysOf (S.filter (fun x => decide (x.f3 ∉ keysOf R)))) (by simp [keysOf]) (fun S x ih => ?_) S
  rw [← List.append_assoc, keysOf_snoc, ih, List.filter_append]
  by_cases h : x.f3 ∈ keysOf R
  · rw [if_pos (List.mem_append.2 (.inl h))]
    simp [h]
  · by_cases h2 : x.f3 ∈ keysOf (S.filter (fun x => decide (x.f3 ∉ keysOf R)))
    · rw [if_pos (List.mem_append.2 (.inr h2))]
      simp only [List.filter_cons, h, not_false_eq_true, decide_true, if_true, List.filter_nil]
      rw [keysOf_snoc, if_pos h2]
    · rw [if_neg (by simp only [List.mem_append, not_or]; exact ⟨h, h2⟩)]
      simp only [List.filter_cons, h, not_false_eq_true, decide_true, if_true, List.filter_nil]
      rw [keysOf_snoc, if_neg h2, List.append_assoc]
theorem keysOf_le (R S : List S42) : (keysOf R).length ≤ (keysOf (R ++ S)).length := by rw [keysOf_append, List.length_append]; omega

/-- The greatest offset of a key. -/
def mxr (key : List Int) (R : List S42) : Option Int := R.foldl (fun o r => if r.f3 = key then some (match o with | some v => max r.f0 v | none => r.f0) else o) none
theorem mxr_snoc (key : List Int) (R : List S42) (x : S42) : mxr key (R ++ [x]) = if x.f3 = key then some (match mxr key R with | some v => max x.f0 v | none => x.f0) else mxr key R := by
  unfold mxr
  rw [List.foldl_append]
  rfl
theorem mxr_some (key : List Int) (R : List S42) : (mxr key R).isSome = true ↔ key ∈ keysOf R := by
  rw [mem_keysOf]
  refine snoc_ind (P := fun R => (mxr key R).isSome = true ↔ ∃ r ∈ R, r.f3 = key) (by simp [mxr]) (fun R x ih => ?_) R
  rw [mxr_snoc]
  by_cases e : x.f3 = key
  · rw [if_pos e]; simp only [Option.isSome_some, true_iff]; exact ⟨x, by simp, e⟩
  · rw [if_neg e, ih]
    constructor
    · rintro ⟨r, hr, h⟩; exact ⟨r, by simp [hr], h⟩
    · rintro ⟨r, hr, h⟩
      rcases List.mem_append.1 hr with hr | hr
      · exact ⟨r, hr, h⟩
      · obtain rfl := List.mem_singleton.1 hr; exact absurd h e
/-- The map holds the records R. -/
def Holds (D : DataW Unit) (R : List S42) : Prop := Tidy D ∧ Maps.size D = (keysOf R).length ∧ ∀ key, Bytes key → look D key = mxr key R
theorem holds_nil : Holds (.map []) [] := ⟨tidy_empty, rfl, fun key _ => look_nil key⟩
theorem Holds.known {D : DataW Unit} {R : List S42} (h : Holds D R) {key : List Int} (hk : Bytes key) : (look D key).isSome = true ↔ key ∈ keysOf R := by rw [h.2.2 key hk, mxr_some]
theorem holds_snoc {most : Int} {D : DataW Unit} {R : List S42} {x : S42} (h : Holds D R) (hx : Bytes x.f3) (hr : x.f3 ∈ keysOf R ∨ (Maps.size D : Int) < most) :
    ∃ D', offer most D (kl x.f3) x.f0 = (true, D') ∧ Holds D' (R ++ [x]) := by
  obtain ⟨h1, h2, h3⟩ := h
  have hkn := mxr_some x.f3 R
  rw [offer_of_look, h3 _ hx]
  cases hm : mxr x.f3 R with
  | some v =>
    rw [hm] at hkn
    have hin : x.f3 ∈ keysOf R := hkn.1 rfl
    refine ⟨_, rfl, h1.put (kl_key _) _, ?_, fun key hkey => ?_⟩
    · rw [size_put_look h1, h3 _ hx, hm, keysOf_snoc, if_pos hin]; simpa using h2
    · rw [look_put h1 hx hkey, mxr_snoc]
      by_cases e : key = x.f3
      · rw [if_pos e, if_pos e.symm, e, hm]
      · rw [if_neg e, if_neg (fun h => e h.symm), h3 _ hkey]
  | none =>
    rw [hm] at hkn
    have hin : x.f3 ∉ keysOf R := fun hh => by have := hkn.2 hh; simp at this
    have hlt : (Maps.size D : Int) < most := hr.resolve_left hin
    simp only
    rw [if_neg (by omega)]
    refine ⟨_, rfl, h1.put (kl_key _) _, ?_, fun key hkey => ?_⟩
    · rw [size_put_look h1, h3 _ hx, hm, keysOf_snoc, if_neg hin]; simp [h2]
    · rw [look_put h1 hx hkey, mxr_snoc]
      by_cases e : key = x.f3
      · rw [if_pos e, if_pos e.symm, e, hm]
      · rw [if_neg e, if_neg (fun h => e h.symm), h3 _ hkey]

/-- Is a record offered? -/
def offd (from_ : Int) (r : S42) : Bool := r.f2 && decide (from_ ≤ r.f0)
/-- Is its key a new one, too? -/
def newd (D : DataW Unit) (from_ : Int) (r : S42) : Bool := offd from_ r && (look D r.f3).isNone
/-- How many keys are new. -/
def freshN (D : DataW Unit) (from_ : Int) (rs : List S42) : Nat := (keysOf (rs.filter (newd D from_))).length
theorem filter_new {D : DataW Unit} {R : List S42} (h : Holds D R) (from_ : Int) (rs : List S42) (hb : ∀ x ∈ rs, Bytes x.f3) : (rs.filter (offd from_)).filter (fun x => decide (x.f3 ∉ keysOf R)) = rs.filter (newd D from_) := by
  rw [List.filter_filter]
  refine List.filter_congr (fun x hx => ?_)
  unfold newd
  have := h.known (hb x hx)
  cases hl : look D x.f3 with
  | some v => rw [hl] at this; have h2 := this.1 rfl; simp [h2]
  | none => rw [hl] at this; have h2 : x.f3 ∉ keysOf R := fun hh => by have := this.2 hh; simp at this
            simp [h2]
theorem keys_fresh {D : DataW Unit} {R : List S42} (h : Holds D R) (from_ : Int) (rs : List S42) (hb : ∀ x ∈ rs, Bytes x.f3) : (keysOf (R ++ rs.filter (offd from_))).length = Maps.size D + freshN D from_ rs := by
  rw [keysOf_append, List.length_append, h.2.1, filter_new h from_ rs hb]
  rfl
/-- While a batch that finds room is offered, each record finds room. -/
theorem room_next {D Dp : DataW Unit} {R : List S42} (h : Holds D R) {from_ : Int} {rs : List S42} (hb : ∀ x ∈ rs, Bytes x.f3) {most : Int} (hroom : (Maps.size D : Int) + (freshN D from_ rs : Int) ≤ most) {k : Nat} (hk : k < rs.length)
    (hp : Holds Dp (R ++ (rs.take k).filter (offd from_))) (ho : offd from_ rs[k] = true) :
    (rs[k]).f3 ∈ keysOf (R ++ (rs.take k).filter (offd from_)) ∨ (Maps.size Dp : Int) < most := by
  by_cases hin : (rs[k]).f3 ∈ keysOf (R ++ (rs.take k).filter (offd from_))
  · exact .inl hin
  · right
    have h1 := keys_fresh h from_ rs hb
    have e : rs = rs.take k ++ ([rs[k]] ++ rs.drop (k + 1)) := by
      rw [List.singleton_append, ← List.drop_eq_getElem_cons hk, List.take_append_drop]
    have h2 : (keysOf (R ++ rs.filter (offd from_))).length ≥ (keysOf (R ++ (rs.take k).filter (offd from_))).length + 1 := by
      have e2 : R ++ rs.filter (offd from_) = ((R ++ (rs.take k).filter (offd from_)) ++ [rs[k]]) ++ (rs.drop (k + 1)).filter (offd from_) := by
        conv => lhs; rw [e]
        rw [List.filter_append, List.filter_append]
        simp [ho]
      rw [e2]
      have h3 := keysOf_le ((R ++ (rs.take k).filter (offd from_)) ++ [rs[k]]) ((rs.drop (k + 1)).filter (offd from_))
      rw [keysOf_snoc, if_neg hin, List.length_append] at h3
      simpa using h3
    have h4 := hp.2.1
    omega
theorem take_filter (f : S42 → Bool) (rs : List S42) (k : Nat) (hk : k < rs.length) : (rs.take (k + 1)).filter f = (rs.take k).filter f ++ (if f rs[k] then [rs[k]] else []) := by
  rw [List.take_succ_eq_append_getElem hk, List.filter_append]
  cases h : f rs[k] <;> simp [h]
end Go.Proofs.Ytpibjdkenifggaa.KM
