/- What the law on covered keys reckons, in plain words. -/
import Derived.Test.YtpibjdkenifggaaKB
namespace Go.Proofs.Ytpibjdkenifggaa.KM
open Go.RowKit Go.Maps Go.Proofs.YtpibjdkenifggaaW.PrintWords Go.Proofs.Ytpibjdkenifggaa.PKeymapCovers

def flat (l : List S40) : List S42 := l.flatMap (fun b => b.f5)
theorem flat_snoc (l : List S40) (b : S40) : flat (l ++ [b]) = flat l ++ b.f5 := by simp [flat]
theorem flat_append (l m : List S40) : flat (l ++ m) = flat l ++ flat m := by simp [flat]
/-- The offset that is not covered, behind all batches of l. -/
def upto (from_ : Int) (l : List S40) : Int := l.foldl (fun _ b => max (wrap64 (b.f1 + 1)) from_) from_
theorem upto_snoc (from_ : Int) (l : List S40) (b : S40) : upto from_ (l ++ [b]) = max (wrap64 (b.f1 + 1)) from_ := by simp [upto, List.foldl_append]
theorem upto_ge (from_ : Int) (l : List S40) : from_ ≤ upto from_ l :=
  snoc_ind (P := fun l => from_ ≤ upto from_ l) (by simp [upto]) (fun l b _ => by rw [upto_snoc]; omega) l
/-- What Build leaves: the first n batches are in. -/
def Built (from_ most : Int) (l : List S40) (D : DataW Unit) (u : Int) : Prop :=
  ∃ n, n ≤ l.length ∧ Holds D ((flat (l.take n)).filter (offd from_)) ∧ ((Maps.size D : Int) ≤ most) ∧ ((n = l.length ∧ u = upto from_ l) ∨ ∃ h : n < l.length, (l[n]).f5 ≠ [] ∧ u = max (l[n]).f0 from_)

/-- The records of a batch rise, behind 'last'; where the last one stands. -/
def wellR (base lst : Int) : Int → List S42 → Option Int
  | last, [] => some last
  | last, r :: rs => if r.f0 ≤ last ∨ r.f0 < base ∨ r.f0 > lst then none else wellR base lst r.f0 rs
def wellB : Int → List S40 → Option Int
  | last, [] => some last
  | last, b :: bs => if b.f0 ≤ last then none else match wellR b.f0 b.f1 last b.f5 with
    | none => none
    | some la => if b.f1 < la ∨ b.f1 > 4611686018427387904 then none else wellB b.f1 bs
theorem wellR_facts (base lst : Int) : ∀ (rs : List S42) (last z : Int), wellR base lst last rs = some z → last ≤ z ∧ (∀ x ∈ rs, last < x.f0 ∧ base ≤ x.f0 ∧ x.f0 ≤ lst ∧ x.f0 ≤ z) ∧ rs.Pairwise (fun a b => a.f0 < b.f0) := by
  intro rs
  induction rs with
  | nil => intro last z h; simp [wellR] at h; subst h; exact ⟨Int.le_refl _, by simp, List.Pairwise.nil⟩
  | cons r rs ih =>
    intro last z h
    unfold wellR at h
    by_cases c : r.f0 ≤ last ∨ r.f0 < base ∨ r.f0 > lst
    · rw [if_pos c] at h; cases h
    · rw [if_neg c] at h
      obtain ⟨h1, h2, h3⟩ := ih _ _ h
      refine ⟨by omega, fun x hx => ?_, List.pairwise_cons.2 ⟨fun y hy => (h2 y hy).1, h3⟩⟩
      rcases List.mem_cons.1 hx with rfl | hx
      · omega
      · have := h2 x hx; omega
theorem wellB_facts : ∀ (l : List S40) (last z : Int), wellB last l = some z → last ≤ z ∧ (∀ x ∈ flat l, last < x.f0 ∧ x.f0 ≤ z) ∧ (flat l).Pairwise (fun a b => a.f0 < b.f0) ∧ (∀ b ∈ l, last < b.f0 ∧ b.f1 ≤ 4611686018427387904 ∧ b.f1 ≤ z ∧ last ≤ b.f1) := by
  intro l
  induction l with
  | nil => intro last z h; simp [wellB] at h; subst h; exact ⟨Int.le_refl _, by simp [flat], List.Pairwise.nil, by simp⟩
  | cons b l ih =>
    intro last z h
    unfold wellB at h
    by_cases c : b.f0 ≤ last
    · rw [if_pos c] at h; cases h
    · rw [if_neg c] at h
      cases hr : wellR b.f0 b.f1 last b.f5 with
      | none => rw [hr] at h; cases h
      | some la =>
        rw [hr] at h
        simp only at h
        by_cases c2 : b.f1 < la ∨ b.f1 > 4611686018427387904
        · rw [if_pos c2] at h; cases h
        · rw [if_neg c2] at h
          obtain ⟨g1, g2, g3⟩ := wellR_facts _ _ _ _ _ hr
          obtain ⟨h1, h2, h3, h4⟩ := ih _ _ h
          have e : flat (b :: l) = b.f5 ++ flat l := by simp [flat]
          rw [e]
          refine ⟨by omega, fun x hx => ?_, List.pairwise_append.2 ⟨g3, h3, fun x hx y hy => ?_⟩, fun c hc => ?_⟩
          · rcases List.mem_append.1 hx with hx | hx
            · have := g2 x hx; omega
            · have := h2 x hx; omega
          · have := g2 x hx; have := h2 y hy; omega
          · rcases List.mem_cons.1 hc with rfl | hc
            · omega
            · have := h4 c hc; omega
theorem wellB_last (m : List S40) : ∀ (last z : Int) (b : S40), wellB last (m ++ [b]) = some z → z = b.f1 := by
  induction m with
  | nil =>
    intro last z b h
    simp only [List.nil_append, wellB] at h
    split at h
    · cases h
    · split at h
      · cases h
      · split at h
        · cases h
        · exact (Option.some.inj h).symm
  | cons c m ih =>
    intro last z b h
    simp only [List.cons_append, wellB] at h
    split at h
    · cases h
    · split at h
      · cases h
      · split at h
        · cases h
        · exact ih _ _ _ h
/-- A batch in the middle: what is ahead of it lies ahead of its base, what is in it or behind it does not. -/
theorem wellB_mid : ∀ (l : List S40) (last z : Int), wellB last l = some z → ∀ n (h : n < l.length), (l[n]).f5 ≠ [] → (∀ x ∈ flat (l.take n), x.f0 < (l[n]).f0) ∧ ∀ x ∈ flat (l.drop n), (l[n]).f0 ≤ x.f0 := by
  intro l
  induction l with
  | nil => intro last z _ n h _; simp at h
  | cons b l ih =>
    intro last z hw n h hne
    unfold wellB at hw
    by_cases c : b.f0 ≤ last
    · rw [if_pos c] at hw; cases hw
    · rw [if_neg c] at hw
      cases hr : wellR b.f0 b.f1 last b.f5 with
      | none => rw [hr] at hw; cases hw
      | some la =>
        rw [hr] at hw
        simp only at hw
        by_cases c2 : b.f1 < la ∨ b.f1 > 4611686018427387904
        · rw [if_pos c2] at hw; cases hw
        · rw [if_neg c2] at hw
          obtain ⟨g1, g2, g3⟩ := wellR_facts _ _ _ _ _ hr
          obtain ⟨h1, h2, h3, h4⟩ := wellB_facts _ _ _ hw
          cases n with
          | zero =>
            refine ⟨by simp [flat], fun x hx => ?_⟩
            have e : flat ((b :: l).drop 0) = b.f5 ++ flat l := by simp [flat]
            rw [e] at hx
            show b.f0 ≤ x.f0
            rcases List.mem_append.1 hx with hx | hx
            · exact (g2 x hx).2.1
            · have hne' : b.f5 ≠ [] := hne
              obtain ⟨y, ys, hy⟩ := List.exists_cons_of_ne_nil hne'
              have := g2 y (by rw [hy]; simp)
              have := h2 x hx
              omega
          | succ n =>
            have hn : n < l.length := by simpa using h
            obtain ⟨i1, i2⟩ := ih _ _ hw n hn (by simpa using hne)
            refine ⟨fun x hx => ?_, fun x hx => ?_⟩
            · have e : flat ((b :: l).take (n + 1)) = b.f5 ++ flat (l.take n) := by simp [flat]
              rw [e] at hx
              show x.f0 < (l[n]).f0
              rcases List.mem_append.1 hx with hx | hx
              · have := g2 x hx
                have := (h4 (l[n]) (List.getElem_mem hn)).1
                omega
              · exact i1 x hx
            · exact i2 x (by simpa using hx)

/-- Which records the law looks at. -/
def inn (from_ u : Int) (r : S42) : Bool := r.f2 && (decide (from_ ≤ r.f0) && decide (r.f0 < u))
/-- They are those that were offered. -/
theorem seen_is {from_ most u z : Int} {l : List S40} {D : DataW Unit} (hw : wellB (-1) l = some z) (hB : Built from_ most l D u) : Holds D ((flat l).filter (inn from_ u)) ∧ (Maps.size D : Int) ≤ most ∧ from_ ≤ u := by
  obtain ⟨n, hn, hh, hs, hu⟩ := hB
  obtain ⟨w1, w2, w3, w4⟩ := wellB_facts _ _ _ hw
  have e : (flat l).filter (inn from_ u) = (flat (l.take n)).filter (offd from_) := by
    have e1 : flat l = flat (l.take n) ++ flat (l.drop n) := by rw [← flat_append, List.take_append_drop]
    rw [e1, List.filter_append]
    have key : (∀ x ∈ flat (l.take n), x.f0 < u ∨ x.f0 < from_) ∧ ∀ x ∈ flat (l.drop n), u ≤ x.f0 ∨ x.f0 < from_ := by
      rcases hu with ⟨rfl, rfl⟩ | ⟨h, hne, rfl⟩
      · refine ⟨fun x hx => ?_, by simp [flat]⟩
        rw [List.take_length] at hx
        -- all offsets stand ahead of what is behind the last batch
        have : x.f0 < upto from_ l ∨ x.f0 < from_ := by
          by_cases hx2 : x.f0 < from_
          · exact .inr hx2
          · left
            have key2 : ∀ (m : List S40) (last z : Int), -1 ≤ last → wellB last m = some z → ∀ y ∈ flat m, m ≠ [] ∧ y.f0 < upto from_ m := by
              intro m
              refine snoc_ind (P := fun m => ∀ (last z : Int), -1 ≤ last → wellB last m = some z → ∀ y ∈ flat m, m ≠ [] ∧ y.f0 < upto from_ m) (by simp [flat]) (fun m b _ last z hl hwm y hy => ⟨by simp, ?_⟩) m
              rw [upto_snoc]
              obtain ⟨v1, v2, v3, v4⟩ := wellB_facts _ _ _ hwm
              have hb := v4 b (by simp)
              have hbz : z = b.f1 := wellB_last m last z b hwm
              have := v2 y hy
              have hwr : wrap64 (b.f1 + 1) = b.f1 + 1 := by unfold wrap64; omega
              rw [hwr]
              omega
            exact (key2 l (-1) z (Int.le_refl _) hw x hx).2
        exact this
      · obtain ⟨m1, m2⟩ := wellB_mid l (-1) z hw n h hne
        refine ⟨fun x hx => ?_, fun x hx => ?_⟩
        · have := m1 x hx; omega
        · have := m2 x hx; omega
    have e2 : (flat (l.drop n)).filter (inn from_ u) = [] := by
      rw [List.filter_eq_nil_iff]
      intro x hx
      have := key.2 x hx
      unfold inn
      simp only [Bool.and_eq_true, decide_eq_true_eq, not_and]
      omega
    have e3 : (flat (l.take n)).filter (inn from_ u) = (flat (l.take n)).filter (offd from_) := by
      refine List.filter_congr (fun x hx => ?_)
      have := key.1 x hx
      unfold inn offd
      by_cases h : from_ ≤ x.f0
      · simp [h, show x.f0 < u by omega]
      · simp [h]
    rw [e2, e3, List.append_nil]
  rw [e]
  refine ⟨hh, hs, ?_⟩
  rcases hu with ⟨_, rfl⟩ | ⟨h, _, rfl⟩
  · exact upto_ge _ _
  · omega

def wantR (from_ u : Int) (key : List Int) (m : Int) (rs : List S42) : Int := rs.foldl (fun m y => if inn from_ u y = true ∧ y.f3 = key then max m y.f0 else m) m
theorem wantR_snoc (from_ u : Int) (key : List Int) (m : Int) (rs : List S42) (y : S42) : wantR from_ u key m (rs ++ [y]) = if inn from_ u y = true ∧ y.f3 = key then max (wantR from_ u key m rs) y.f0 else wantR from_ u key m rs := by
  unfold wantR; rw [List.foldl_append]; rfl
theorem wantR_is (from_ u : Int) (key : List Int) (m : Int) (rs : List S42) : wantR from_ u key m rs = match mxr key (rs.filter (inn from_ u)) with | some v => max m v | none => m := by
  refine snoc_ind (P := fun rs => wantR from_ u key m rs = match mxr key (rs.filter (inn from_ u)) with | some v => max m v | none => m) (by simp [wantR, mxr]) (fun rs y ih => ?_) rs
  rw [wantR_snoc, ih, List.filter_append]
  by_cases h : inn from_ u y = true
  · rw [show [y].filter (inn from_ u) = [y] from by simp [h], mxr_snoc]
    by_cases e : y.f3 = key
    · rw [if_pos ⟨h, e⟩, if_pos e]
      cases mxr key (rs.filter (inn from_ u)) <;> simp only <;> omega
    · rw [if_neg (fun hh => e hh.2), if_neg e]
  · rw [show [y].filter (inn from_ u) = [] from by simp [h], List.append_nil, if_neg (fun hh => h hh.1)]
theorem mxr_mem (key : List Int) (R : List S42) (x : S42) (hx : x ∈ R) (he : x.f3 = key) : ∃ v, mxr key R = some v ∧ x.f0 ≤ v := by
  revert hx
  refine snoc_ind (P := fun R => x ∈ R → ∃ v, mxr key R = some v ∧ x.f0 ≤ v) (by simp) (fun R y ih hx => ?_) R
  rw [mxr_snoc]
  rcases List.mem_append.1 hx with hx | hx
  · obtain ⟨v, hv, hle⟩ := ih hx
    by_cases e : y.f3 = key
    · rw [if_pos e, hv]; exact ⟨_, rfl, by simp only; omega⟩
    · rw [if_neg e]; exact ⟨v, hv, hle⟩
  · obtain rfl := List.mem_singleton.1 hx
    rw [if_pos he]
    cases mxr key R with
    | none => exact ⟨_, rfl, Int.le_refl _⟩
    | some v => exact ⟨_, rfl, by simp only; omega⟩
/-- What is told of a key is what the law has reckoned. -/
theorem told_r {from_ u : Int} {all : List S42} {D : DataW Unit} (h : Holds D (all.filter (inn from_ u))) {x : S42} (hx : x ∈ all) (hi : inn from_ u x = true) (hb : Bytes x.f3) :
    last D (kl x.f3) = (wantR from_ u x.f3 x.f0 all, true) := by
  obtain ⟨v, hv, hle⟩ := mxr_mem x.f3 (all.filter (inn from_ u)) x (List.mem_filter.2 ⟨hx, hi⟩) rfl
  rw [last_of_look, h.2.2 _ hb, hv, wantR_is, hv]
  simp only [Option.getD_some, Option.isSome_some, Prod.mk.injEq, and_true]
  omega
def firstR (from_ u : Int) (key : List Int) (off : Int) (rs : List S42) : Bool := rs.foldl (fun f y => if inn from_ u y = true ∧ y.f3 = key then f && decide (y.f0 ≥ off) else f) true
theorem firstR_snoc (from_ u : Int) (key : List Int) (off : Int) (rs : List S42) (y : S42) : firstR from_ u key off (rs ++ [y]) = if inn from_ u y = true ∧ y.f3 = key then (firstR from_ u key off rs && decide (y.f0 ≥ off)) else firstR from_ u key off rs := by
  unfold firstR; rw [List.foldl_append]; rfl
theorem firstR_is (from_ u : Int) (key : List Int) (off : Int) (rs : List S42) : firstR from_ u key off rs = true ↔ ∀ y ∈ rs, inn from_ u y = true → y.f3 = key → off ≤ y.f0 := by
  refine snoc_ind (P := fun rs => firstR from_ u key off rs = true ↔ ∀ y ∈ rs, inn from_ u y = true → y.f3 = key → off ≤ y.f0) (by simp [firstR]) (fun rs y ih => ?_) rs
  rw [firstR_snoc]
  by_cases h : inn from_ u y = true ∧ y.f3 = key
  · rw [if_pos h, Bool.and_eq_true, ih]
    constructor
    · rintro ⟨h1, h2⟩ z hz hi he
      rcases List.mem_append.1 hz with hz | hz
      · exact h1 z hz hi he
      · obtain rfl := List.mem_singleton.1 hz; exact of_decide_eq_true h2
    · intro hh
      exact ⟨fun z hz => hh z (by simp [hz]), decide_eq_true (hh y (by simp) h.1 h.2)⟩
  · rw [if_neg h, ih]
    constructor
    · intro h1 z hz hi he
      rcases List.mem_append.1 hz with hz | hz
      · exact h1 z hz hi he
      · obtain rfl := List.mem_singleton.1 hz; exact absurd ⟨hi, he⟩ h
    · intro hh z hz; exact hh z (by simp [hz])
/-- The firsts of their keys are as many as there are keys. -/
theorem count_step {from_ u : Int} {all : List S42} (hs : all.Pairwise (fun a b => a.f0 < b.f0)) (i : Nat) (hi : i < all.length) :
    (keysOf ((all.take (i + 1)).filter (inn from_ u))).length = (keysOf ((all.take i).filter (inn from_ u))).length + (if inn from_ u all[i] = true ∧ firstR from_ u (all[i]).f3 (all[i]).f0 all = true then 1 else 0) := by
  rw [take_filter _ _ _ hi]
  by_cases h : inn from_ u all[i] = true
  · rw [h, if_pos rfl, keysOf_snoc]
    have key : firstR from_ u (all[i]).f3 (all[i]).f0 all = true ↔ (all[i]).f3 ∉ keysOf ((all.take i).filter (inn from_ u)) := by
      rw [firstR_is, mem_keysOf]
      constructor
      · rintro hf ⟨r, hr, he⟩
        obtain ⟨hr1, hr2⟩ := List.mem_filter.1 hr
        have h1 := hf r (List.mem_of_mem_take hr1) hr2 he
        obtain ⟨j, hj, hje⟩ := List.getElem_of_mem hr1
        rw [List.length_take] at hj
        rw [List.getElem_take] at hje
        have h2 := List.pairwise_iff_getElem.1 hs j i (by omega) hi (by omega)
        rw [hje] at h2
        omega
      · intro hn y hy hyi hye
        obtain ⟨j, hj, hje⟩ := List.getElem_of_mem hy
        rcases Nat.lt_trichotomy j i with hlt | rfl | hgt
        · refine absurd ⟨y, List.mem_filter.2 ⟨?_, hyi⟩, hye⟩ hn
          rw [← hje]
          exact List.mem_take_iff_getElem.2 ⟨j, by omega, rfl⟩
        · rw [← hje]; exact Int.le_refl _
        · have h2 := List.pairwise_iff_getElem.1 hs i j hi hj hgt
          rw [hje] at h2
          omega
    by_cases hm : (all[i]).f3 ∈ keysOf ((all.take i).filter (inn from_ u))
    · rw [if_pos hm, if_neg (fun hh => (key.1 hh.2) hm)]; rfl
    · rw [if_neg hm, if_pos ⟨rfl, key.2 hm⟩]; simp
  · rw [if_neg (by simpa using h), if_neg (fun hh => h hh.1), List.append_nil]; rfl
end Go.Proofs.Ytpibjdkenifggaa.KM
