/- What the proof of the law DiskNothing needs, cut out of the session's own texts by a program (slim.py): part 3. -/
import Derived.Test.YthfoanmokcepcaaQDiskNothingb
section
namespace Go.Proofs.Ythfoanmokcepcaa.DS
open Go.Proofs.Ythfoanmokcepcaa.H Go.Proofs.Ythfoanmokcepcaa.AS
set_option linter.unusedVariables false
set_option linter.unusedSimpArgs false
/-- A file: bytes, the first of which are safe. -/
structure Fl where
  b : List Int
  safe : Int
abbrev Nm := By × Nat
/-- A name's act: 1 a file's beginning, 2 a rename, 3 a removal. -/
structure AC where
  kind : Int
  a : By
  b : By
  f : Nat
structure DK where
  room : Int
  files : List Fl
  now : List Nm
  safe : List Nm
  acts : List AC
  cut : Bool
  left : Int
  off : Bool
  ops : Int
def fl0 : Fl := ⟨[], 0⟩
def nm0 : Nm := ([], 0)
def ac0 : AC := ⟨0, [], [], 0⟩
def look (l : List Nm) (n : By) : Option Nat := (l.find? fun x => x.1 == n).map (·.2)
def without (l : List Nm) (n : By) : List Nm := l.filter fun x => !(x.1 == n)
def withN (l : List Nm) (n : By) (i : Nat) : List Nm := (l.filter fun x => bl_ x.1 n) ++ (n, i) :: l.filter fun x => bl_ n x.1
def applyA (l : List Nm) (a : AC) : List Nm := if a.kind = 1 then withN l a.a a.f else if a.kind = 2 then withN (without l a.a) a.b a.f else without l a.a
/-- Names rise. -/
def Srt (l : List Nm) : Prop := l.Pairwise fun x y => bl_ x.1 y.1 = true
theorem bl_ne {a b : By} (h : bl_ a b = true) : a ≠ b := fun e => by rw [e, bl_irrefl] at h; cases h
theorem bl_or {a b : By} (h : a ≠ b) : bl_ a b = true ∨ bl_ b a = true := by
  cases e : bl_ a b with
  | true => exact .inl rfl
  | false => rcases bl_tri a b e with e' | e'; exact absurd e' h; exact .inr e'
theorem find_filter {α : Type} (p q : α → Bool) (l : List α) (h : ∀ x, p x = true → q x = true) : (l.filter q).find? p = l.find? p := by
  induction l with
  | nil => rfl
  | cons x l ih =>
    rw [List.filter_cons]
    cases hp : p x with
    | true => rw [if_pos (h x hp), List.find?_cons_of_pos hp, List.find?_cons_of_pos hp]
    | false =>
      rw [List.find?_cons_of_neg (by rw [hp]; exact Bool.false_ne_true)]
      split
      · rw [List.find?_cons_of_neg (by rw [hp]; exact Bool.false_ne_true), ih]
      · exact ih
theorem find_none {α : Type} (p q : α → Bool) (l : List α) (h : ∀ x, p x = true → q x = false) : (l.filter q).find? p = none := by
  rw [List.find?_eq_none]
  intro x hx hp
  have := (List.mem_filter.1 hx).2
  rw [h x hp] at this
  cases this
theorem look_without (l : List Nm) (m n : By) : look (without l m) n = if n = m then none else look l n := by
  unfold look without
  by_cases e : n = m
  · rw [if_pos e, find_none]
    · rfl
    · intro x hx
      simp only [beq_iff_eq] at hx
      simp [hx, e]
  · rw [if_neg e, find_filter]
    intro x hx
    simp only [beq_iff_eq] at hx
    simp [hx, e]
theorem look_with (l : List Nm) (m n : By) (i : Nat) : look (withN l m i) n = if n = m then some i else look l n := by
  unfold look withN
  rw [List.find?_append]
  by_cases e : n = m
  · subst e
    rw [if_pos rfl, find_none]
    · simp
    · intro x hx
      simp only [beq_iff_eq] at hx
      rw [hx, bl_irrefl]
  · rw [if_neg e, List.find?_cons_of_neg (by simpa using fun e' => e e'.symm)]
    rcases bl_or e with h | h
    · rw [find_filter _ _ _ (by intro x hx; simp only [beq_iff_eq] at hx; rw [hx]; exact h), find_none _ (fun x : Nm => bl_ m x.1)]
      · simp
      · intro x hx
        simp only [beq_iff_eq] at hx
        rw [hx]
        exact bl_asymm h
    · rw [find_none _ (fun x : Nm => bl_ x.1 m), find_filter _ _ _ (by intro x hx; simp only [beq_iff_eq] at hx; rw [hx]; exact h)]
      · simp
      · intro x hx
        simp only [beq_iff_eq] at hx
        rw [hx]
        exact bl_asymm h
theorem srt_without {l : List Nm} (h : Srt l) (n : By) : Srt (without l n) := List.Pairwise.filter _ h
theorem srt_with {l : List Nm} (h : Srt l) (n : By) (i : Nat) : Srt (withN l n i) := by
  unfold Srt withN
  rw [List.pairwise_append]
  refine ⟨List.Pairwise.filter _ h, ?_, ?_⟩
  · rw [List.pairwise_cons]
    exact ⟨fun x hx => (List.mem_filter.1 hx).2, List.Pairwise.filter _ h⟩
  · intro x hx y hy
    have h1 := (List.mem_filter.1 hx).2
    rcases List.mem_cons.1 hy with rfl | hy
    · exact h1
    · exact bl_trans _ _ _ h1 (List.mem_filter.1 hy).2
theorem srt_apply {l : List Nm} (h : Srt l) (a : AC) : Srt (applyA l a) := by
  unfold applyA
  split
  · exact srt_with h _ _
  · split
    · exact srt_with (srt_without h _) _ _
    · exact srt_without h _
theorem srt_foldl {l : List Nm} (h : Srt l) (ac : List AC) : Srt (ac.foldl applyA l) := by
  induction ac generalizing l with
  | nil => exact h
  | cons a ac ih => exact ih (srt_apply h a)
theorem look_none {l : List Nm} {n : By} : look l n = none ↔ ∀ x ∈ l, x.1 ≠ n := by
  unfold look
  simp
theorem look_mem {l : List Nm} (h : Srt l) {n : By} {i : Nat} : look l n = some i ↔ (n, i) ∈ l := by
  unfold look
  constructor
  · intro hh
    obtain ⟨x, hx, rfl⟩ := Option.map_eq_some_iff.1 hh
    have h1 := List.find?_some hx
    have h2 := List.mem_of_find?_eq_some hx
    simp only [beq_iff_eq] at h1
    rw [← h1]
    exact h2
  · intro hm
    cases hf : l.find? (fun x => x.1 == n) with
    | none =>
      have := List.find?_eq_none.1 hf _ hm
      simp at this
    | some y =>
      have h1 := List.find?_some hf
      simp only [beq_iff_eq] at h1
      have h2 := List.mem_of_find?_eq_some hf
      have : y = (n, i) := by
        rcases List.mem_iff_getElem.1 h2 with ⟨j, hj, rfl⟩
        rcases List.mem_iff_getElem.1 hm with ⟨k, hk, hke⟩
        have hp := List.pairwise_iff_getElem.1 h
        rcases Nat.lt_trichotomy j k with hjk | rfl | hjk
        · have := hp j k hj hk hjk
          rw [hke, h1, bl_irrefl] at this
          cases this
        · exact hke
        · have := hp k j hk hj hjk
          rw [hke, h1, bl_irrefl] at this
          cases this
      rw [this]
      rfl
/-- How many there are. -/
theorem len_part {l : List Nm} (n : By) : (l.filter fun x => bl_ x.1 n).length + (l.filter fun x => bl_ n x.1).length = (without l n).length := by
  unfold without
  induction l with
  | nil => rfl
  | cons x l ih =>
    simp only [List.filter_cons]
    by_cases e : x.1 = n
    · have e1 : bl_ x.1 n = false := by rw [e, bl_irrefl]
      have e2 : bl_ n x.1 = false := by rw [e, bl_irrefl]
      rw [e1, e2]
      simpa [e] using ih
    · rcases bl_or e with h | h
      · rw [h, bl_asymm h]
        simp [e]
        omega
      · rw [h, bl_asymm h]
        simp [e]
        omega
theorem len_with (l : List Nm) (n : By) (i : Nat) : (withN l n i).length = (without l n).length + 1 := by
  unfold withN
  rw [List.length_append, List.length_cons, ← len_part (l := l) n]
  exact (Nat.add_assoc _ _ _).symm
theorem len_without {l : List Nm} (h : Srt l) (n : By) : (without l n).length = if (look l n).isSome then l.length - 1 else l.length := by
  induction l with
  | nil => rfl
  | cons x l ih =>
    have hl : Srt l := (List.pairwise_cons.1 h).2
    have hx := (List.pairwise_cons.1 h).1
    by_cases e : x.1 = n
    · have h1 : look (x :: l) n = some x.2 := by unfold look; rw [List.find?_cons_of_pos (by simp [e])]; rfl
      have h2 : look l n = none := look_none.2 fun y hy e' => by
        have := hx y hy
        rw [e, e', bl_irrefl] at this
        cases this
      have h3 := ih hl
      rw [h2] at h3
      rw [h1]
      unfold without at h3 ⊢
      rw [List.filter_cons, if_neg (by simp [e]), h3]
      simp
    · have h1 : look (x :: l) n = look l n := by unfold look; rw [List.find?_cons_of_neg (by simp [e])]
      have h3 := ih hl
      rw [h1]
      unfold without at h3 ⊢
      rw [List.filter_cons, if_pos (by simp [e]), List.length_cons, h3]
      cases hk : look l n with
      | none => simp
      | some i =>
        have : l ≠ [] := fun e => by rw [e] at hk; cases hk
        have := List.length_pos_iff.2 this
        simp
        omega
/-- What is asked of a disk, ahead of all else. -/
def DK.ask (D : DK) : DK := if D.off = true ∨ (D.cut = true ∧ D.left = 0) then { D with ops := D.ops + 1, off := true } else { D with ops := D.ops + 1, left := D.left - 1 }
def okN (n : By) : Bool := decide (1 ≤ n.length ∧ n.length ≤ 100)
def DK.used (D : DK) : Int := (D.now.map fun x => ((D.files.getD x.2 fl0).b.length : Int)).sum
def DK.name (D : DK) (a : AC) : DK := { D with now := applyA D.now a, acts := D.acts ++ [a] }
def DK.setF (D : DK) (i : Nat) (f : Fl) : DK := { D with files := D.files.set i f }
/-- The error that an act on names has ahead of its own. -/
def DK.err (D : DK) (ns : List By) : Int := if D.ask.off = true then 7 else if ns.all okN = true then 0 else 1
def DK.append (D : DK) (n : By) (b : List Int) : DK × Int :=
  if D.err [n] ≠ 0 then (D.ask, D.err [n])
  else if D.room - D.used < (b.length : Int) then (D.ask, 4)
  else match look D.now n with
    | some i => (D.ask.setF i ⟨(D.files.getD i fl0).b ++ b, (D.files.getD i fl0).safe⟩, 0)
    | none => (({ D.ask with files := D.files ++ [fl0] }.name ⟨1, n, [], D.files.length⟩).setF D.files.length ⟨b, 0⟩, 0)
def DK.sync (D : DK) (n : By) : DK × Int :=
  if D.err [n] ≠ 0 then (D.ask, D.err [n])
  else match look D.now n with
    | none => (D.ask, 5)
    | some i => (D.ask.setF i ⟨(D.files.getD i fl0).b, (D.files.getD i fl0).b.length⟩, 0)
def DK.rename (D : DK) (n m : By) : DK × Int :=
  if D.err [n, m] ≠ 0 then (D.ask, D.err [n, m])
  else match look D.now n with
    | none => (D.ask, 5)
    | some i => if n = m then (D.ask, 1) else (D.ask.name ⟨2, n, m, i⟩, 0)
def DK.syncDir (D : DK) : DK × Int := if D.err [] ≠ 0 then (D.ask, D.err []) else ({ D.ask with safe := D.now, acts := [] }, 0)
def DK.cutAt (D : DK) (n : Int) : DK := { D with cut := true, left := max n 0 }
def DK.read (D : DK) (n : By) : List Int × Int := match look D.now n with
  | none => ([], 5)
  | some i => ((D.files.getD i fl0).b, 0)
/-- What of n things a pick says. -/
def part (picks : List Int) (n : Int) : Int := match picks with
  | [] => 0
  | k :: _ => k % (n + 1)
/-- The files behind a crash. -/
def crashF (files : List Fl) : List Nm → List Int → List Fl
  | [], _ => []
  | x :: l, picks =>
    let f := files.getD x.2 fl0
    if f.safe < f.b.length then ⟨f.b.take (f.safe + part picks (f.b.length - f.safe)).toNat, f.safe + part picks (f.b.length - f.safe)⟩ :: crashF files l picks.tail
    else ⟨f.b.take f.safe.toNat, f.safe⟩ :: crashF files l picks
def numbered (l : List Nm) (k : Nat) : List Nm := match l with
  | [] => []
  | x :: l => (x.1, k) :: numbered l (k + 1)
def DK.crash (D : DK) (picks : List Int) : DK :=
  let l := (D.acts.take (part picks D.acts.length).toNat).foldl applyA D.safe
  let fs := crashF D.files l picks.tail
  ⟨D.room, fs, numbered l 0, numbered l 0, [], false, 0, false, 0⟩
def DK.new (room : Int) : DK := ⟨room, [], [], [], [], false, 0, false, 0⟩
end Go.Proofs.Ythfoanmokcepcaa.DS
end
section
namespace Go.Proofs.Ythfoanmokcepcaa.DS
open Go.Proofs.Ythfoanmokcepcaa.H Go.Proofs.Ythfoanmokcepcaa.AS
set_option linter.unusedVariables false
set_option linter.unusedSimpArgs false
set_option maxRecDepth 100000
/-- From s with one's own h to s' with one's own h': all else is kept. -/
def Turn (s h s' h' : HS) : Prop := HS.le h' s' ∧ ∀ k ob, h k = none → s k = some ob → s' k = some ob ∧ h' k = none
section
variable {s t u h g f : HS}
theorem Turn.refl (hl : HS.le h s) : Turn s h s h := ⟨hl, fun k ob h1 h2 => ⟨h2, h1⟩⟩
theorem Turn.trans (a : Turn s h t g) (b : Turn t g u f) : Turn s h u f := ⟨b.1, fun k ob h1 h2 => let ⟨x, y⟩ := a.2 k ob h1 h2; b.2 k ob y x⟩
theorem Turn.set (hl : HS.le h s) {k : Nat} {ob0 : HObj} (hk : h k = some ob0) (ob : HObj) : Turn s h (s.set k ob) (h.set k ob) := by
  refine ⟨le_set hl k ob, fun j o h1 h2 => ?_⟩
  have hne : j ≠ k := fun e => by rw [e, hk] at h1; cases h1
  rw [set_ne _ _ hne, set_ne _ _ hne]
  exact ⟨h2, h1⟩
theorem Turn.new (hl : HS.le h s) {k : Nat} (hk : s k = none) (ob : HObj) : Turn s h (s.set k ob) (h.set k ob) := by
  refine ⟨le_set hl k ob, fun j o h1 h2 => ?_⟩
  have hne : j ≠ k := fun e => by rw [e, hk] at h2; cases h2
  rw [set_ne _ _ hne, set_ne _ _ hne]
  exact ⟨h2, h1⟩
theorem Turn.junk (hl : HS.le h s) (hle : HS.le s t) : Turn s h t h := ⟨HS.le.trans hl hle, fun k ob h1 h2 => ⟨hle _ _ h2, h1⟩⟩
theorem Turn.del (hl : HS.le h s) {k : Nat} {ob0 : HObj} (hk : h k = some ob0) : Turn s h (s.del k) (h.del k) := by
  refine ⟨fun j o hj => ?_, fun j o h1 h2 => ?_⟩
  · by_cases e : j = k
    · subst e; rw [del_at] at hj; cases hj
    · rw [del_ne _ e] at hj ⊢; exact hl _ _ hj
  · have hne : j ≠ k := fun e => by rw [e, hk] at h1; cases h1
    rw [del_ne _ hne, del_ne _ hne]
    exact ⟨h2, h1⟩
theorem Turn.drop (a : Turn s h t g) {g' : HS} (hle : HS.le g' g) : Turn s h t g' := ⟨HS.le.trans hle a.1, fun k ob h1 h2 => let ⟨x, y⟩ := a.2 k ob h1 h2; ⟨x, none_of_le hle y⟩⟩
/-- What was another's own still is. -/
theorem Turn.other (a : Turn s h t g) {o : HS} (hl : HS.le o s) (hd : ∀ k ob, o k = some ob → h k = none) : HS.le o t ∧ ∀ k ob, o k = some ob → g k = none :=
  ⟨fun k ob hk => (a.2 k ob (hd k ob hk) (hl _ _ hk)).1, fun k ob hk => (a.2 k ob (hd k ob hk) (hl _ _ hk)).2⟩
end
/-- A file's row of bytes: nil; its own; or one that is never written again. -/
def FRow (h : HS) (B : HV) (l : List Int) : Prop := (B = nilV ∧ l = []) ∨ (∃ q f, B = .view q 0 1 l.length f ∧ h q = some (.cells (bl l))) ∨ B = .list 1 l.length (bl l) true
theorem FRow.one {h : HS} {B : HV} {l : List Int} (k : FRow h B l) : hone B = true := by
  rcases k with ⟨rfl, -⟩ | ⟨q, f, rfl, -⟩ | rfl <;> rfl
theorem FRow.hc {h : HS} {B : HV} {l : List Int} (k : FRow h B l) : hcells B = some [B] := by
  rcases k with ⟨rfl, -⟩ | ⟨q, f, rfl, -⟩ | rfl <;> rfl
theorem FRow.len {h : HS} {B : HV} {l : List Int} (k : FRow h B l) (e : Nat) (s : HS) : vLenT (some (.slice e)) s B = some (.lit (.int .i64 l.length)) := by
  rcases k with ⟨rfl, rfl⟩ | ⟨q, f, rfl, -⟩ | rfl <;> rfl
theorem FRow.llen {h : HS} {B : HV} {l : List Int} (k : FRow h B l) : llen B = l.length := by
  rcases k with ⟨rfl, rfl⟩ | ⟨q, f, rfl, -⟩ | rfl <;> rfl
theorem FRow.cells {h s : HS} {B : HV} {l : List Int} (k : FRow h B l) (hle : HS.le h s) : lcells s 1 B = some (bl l) := by
  rcases k with ⟨rfl, rfl⟩ | ⟨q, f, rfl, hq⟩ | rfl
  · rfl
  · have hq' := hle _ _ hq
    simp [lcells, hq', bl_len, List.take_of_length_le]
  · simp [lcells]
theorem FRow.keep {h h' : HS} {B : HV} {l : List Int} (k : FRow h B l) (hk : ∀ q ob, accId B = some q → h q = some ob → h' q = some ob) : FRow h' B l := by
  rcases k with k | ⟨q, f, rfl, hq⟩ | k
  · exact .inl k
  · exact .inr (.inl ⟨q, f, rfl, hk q _ rfl hq⟩)
  · exact .inr (.inr k)
theorem FRow.own {h : HS} {B : HV} {l : List Int} (k : FRow h B l) {q : Nat} (hq : accId B = some q) : ∃ ob, h q = some ob := by
  rcases k with ⟨rfl, -⟩ | ⟨q', f, rfl, hq'⟩ | rfl
  · cases hq
  · cases hq; exact ⟨_, hq'⟩
  · cases hq
/-- Bytes put behind a file's. -/
theorem FRow.app {s h : HS} {B x : HV} {l y : List Int} {K : HV → HS → Prop} (k : FRow h B l) (hle : HS.le h s) (hx : lcells s 1 x = some (bl y)) (hy : H.llen x = y.length) (hr : room (l.length + y.length) 1) (hr' : room y.length 1)
    (hK : ∀ B' s' h', FRow h' B' (l ++ y) → Turn s h s' h' → (∀ j ob, accId B ≠ some j → h j = some ob → h' j = some ob) → (∀ j, accId B' = some j → accId B = some j ∨ s j = none) → K B' s') : hAppend s 1 1 B x K := by
  have hbl : bl (l ++ y) = bl l ++ bl y := by simp [bl]
  unfold hAppend
  rw [hx]
  rcases k with ⟨rfl, rfl⟩ | ⟨q, f, rfl, hq⟩ | rfl
  · show (if H.llen x = 0 then K nilV s else _)
    rw [hy]
    split
    · rename_i e
      have : y = [] := List.length_eq_zero_iff.1 e
      subst this
      exact hK _ _ h (.inl ⟨rfl, rfl⟩) (Turn.refl hle) (fun _ _ _ h => h) (fun j hj => by cases hj)
    · refine ⟨hr', fun id hid => ?_⟩
      refine hK _ _ (h.set id (.cells (bl y))) (.inr (.inl ⟨id, _, rfl, set_at _ _ _⟩)) (Turn.new hle hid _) (fun j ob _ hj => ?_) (fun j hj => by cases hj; exact .inr hid)
      rw [set_ne _ _ (ne_new (hle _ _ hj) hid)]
      exact hj
  · have hq' := hle _ _ hq
    simp only [hq', hy]
    refine ⟨trivial, by simp [bl_len], ?_⟩
    have hcut : ((bl l).drop 0).take (l.length * 1) = bl l := by rw [List.drop_zero, Nat.mul_one]; exact List.take_of_length_le (by rw [bl_len]; exact Nat.le_refl _)
    cases f with
    | true =>
      simp only [if_true]
      split
      · rename_i e
        have : y = [] := List.length_eq_zero_iff.1 e
        subst this
        rw [List.append_nil] at hK
        exact hK _ _ h (.inr (.inl ⟨q, _, rfl, hq⟩)) (Turn.refl hle) (fun _ _ _ h => h) (fun j hj => .inl hj)
      · refine ⟨hr, fun id hid => ?_⟩
        rw [hcut, ← hbl]
        refine hK _ _ (h.set id (.cells (bl (l ++ y)))) (.inr (.inl ⟨id, _, by rw [List.length_append], set_at _ _ _⟩)) (Turn.new hle hid _) (fun j ob _ hj => ?_) (fun j hj => by cases hj; exact .inr hid)
        rw [set_ne _ _ (ne_new (hle _ _ hj) hid)]
        exact hj
    | false =>
      simp only [Bool.false_eq_true, if_false, bl_len, Nat.zero_add, Nat.mul_one, if_true]
      refine ⟨hr, fun id hid => ?_⟩
      rw [List.drop_zero, ← hbl]
      have hne : q ≠ id := ne_new hq' hid
      refine hK _ _ ((h.del q).set id (.cells (bl (l ++ y)))) (.inr (.inl ⟨id, _, by rw [List.length_append], set_at _ _ _⟩)) ?_ (fun j ob hj1 hj => ?_) (fun j hj => by cases hj; exact .inr hid)
      · exact (Turn.del hle hq).trans (Turn.new (Turn.del hle hq).1 (by rw [del_ne _ (Ne.symm hne)]; exact hid) _)
      · rw [set_ne _ _ (ne_new (hle _ _ hj) hid), del_ne _ (fun e => hj1 (by rw [e]; rfl))]
        exact hj
  · simp only [hy]
    refine ⟨trivial, trivial, ?_⟩
    split
    · rename_i e
      have : y = [] := List.length_eq_zero_iff.1 e
      subst this
      rw [List.append_nil] at hK
      exact hK _ _ h (.inr (.inr rfl)) (Turn.refl hle) (fun _ _ _ h => h) (fun j hj => by cases hj)
    · refine ⟨hr, fun id hid => ?_⟩
      rw [← hbl]
      refine hK _ _ (h.set id (.cells (bl (l ++ y)))) (.inr (.inl ⟨id, _, by rw [List.length_append], set_at _ _ _⟩)) (Turn.new hle hid _) (fun j ob _ hj => ?_) (fun j hj => by cases hj; exact .inr hid)
      rw [set_ne _ _ (ne_new (hle _ _ hj) hid)]
      exact hj
end Go.Proofs.Ythfoanmokcepcaa.DS
end
section
namespace Go.Proofs.Ythfoanmokcepcaa.DS
open Go.Proofs.Ythfoanmokcepcaa.H Go.Proofs.Ythfoanmokcepcaa.AS
set_option linter.unusedVariables false
set_option linter.unusedSimpArgs false
set_option maxRecDepth 100000
def encS (n : By) : Value := .string ⟨n.toArray⟩
theorem encS_inj {a b : By} (h : encS a = encS b) : a = b := by
  injection h with h
  have := congrArg (fun x : ByteArray => x.data.toList) h
  simpa using this
def nmF (fid : Nat → Nat) (l : List Nm) : Value → Option HV := fun k => match k with
  | .string s => (look l s.data.toList).map fun i => .ptr (fid i) 0
  | _ => none
section
variable {fid : Nat → Nat} {l : List Nm}
theorem nmF_at (n : By) : nmF fid l (encS n) = (look l n).map fun i => .ptr (fid i) 0 := by simp [nmF, encS]
theorem nmF_str {k : Value} {x : HV} (h : nmF fid l k = some x) : ∃ n i, k = encS n ∧ look l n = some i ∧ x = .ptr (fid i) 0 := by
  unfold nmF at h
  split at h
  · rename_i s
    obtain ⟨i, h1, h2⟩ := Option.map_eq_some_iff.1 h
    exact ⟨s.data.toList, i, by simp [encS], h1, h2.symm⟩
  · cases h
theorem nmF_put (n : By) (i : Nat) : fput (nmF fid l) (encS n) (some (.ptr (fid i) 0)) = nmF fid (withN l n i) := by
  funext k
  unfold fput
  split
  · rename_i e
    rw [e, nmF_at, look_with, if_pos rfl]
    rfl
  · rename_i e
    unfold nmF
    split
    · rename_i s
      rw [look_with, if_neg]
      intro e'
      exact e (by rw [← e']; simp [encS])
    · rfl
theorem nmF_del (n : By) : fput (nmF fid l) (encS n) none = nmF fid (without l n) := by
  funext k
  unfold fput
  split
  · rename_i e
    rw [e, nmF_at, look_without, if_pos rfl]
    rfl
  · rename_i e
    unfold nmF
    split
    · rename_i s
      rw [look_without, if_neg]
      intro e'
      exact e (by rw [← e']; simp [encS])
    · rfl
theorem nmF_congr {fid' : Nat → Nat} (h : ∀ x ∈ l, fid' x.2 = fid x.2) (hs : Srt l) : nmF fid' l = nmF fid l := by
  funext k
  unfold nmF
  split
  · rename_i s
    cases hk : look l s.data.toList with
    | none => rfl
    | some i =>
      have := h _ ((look_mem hs).1 hk)
      simp only at this
      rw [Option.map_some, Option.map_some, this]
  · rfl
end
def nilP : HV := .lit (.pointer none)
def dC (D : DK) (mn ms : Nat) (A : HV) : List HV := [.lit (.int .i64 D.room), .map mn, .map ms, A, .lit (.bool D.cut), .lit (.bool D.off), .lit (.int .i64 D.left), .lit (.int .i64 D.ops)]
/-- A name's act, as the program has it: from, to, the file. -/
def acP (fid : Nat → Nat) (a : AC) : List HV := if a.kind = 1 then [strV [], strV a.a, .ptr (fid a.f) 0] else if a.kind = 2 then [strV a.a, strV a.b, nilP] else [strV a.a, strV [], nilP]
theorem acP_len (fid : Nat → Nat) (a : AC) : (acP fid a).length = 3 := by unfold acP; split; rfl; split <;> rfl
theorem acP_one (fid : Nat → Nat) (a : AC) : ∀ y ∈ acP fid a, hone y = true := by
  intro y hy
  unfold acP at hy
  split at hy
  · simp only [List.mem_cons, List.not_mem_nil, or_false] at hy
    rcases hy with rfl | rfl | rfl <;> rfl
  · split at hy
    · simp only [List.mem_cons, List.not_mem_nil, or_false] at hy
      rcases hy with rfl | rfl | rfl <;> rfl
    · simp only [List.mem_cons, List.not_mem_nil, or_false] at hy
      rcases hy with rfl | rfl | rfl <;> rfl
/-- A row of its own, that grows. -/
def ORow (h : HS) (sz : Nat) (A : HV) (n : Nat) (cs : List HV) : Prop := (A = nilV ∧ cs = [] ∧ n = 0) ∨ ∃ q f, A = .view q 0 sz n f ∧ h q = some (.cells cs) ∧ cs.length = n * sz
theorem ORow.keep {h h' : HS} {sz : Nat} {A : HV} {n : Nat} {cs : List HV} (k : ORow h sz A n cs) (hk : ∀ q ob, accId A = some q → h q = some ob → h' q = some ob) : ORow h' sz A n cs := by
  rcases k with k | ⟨q, f, rfl, h1, h2⟩
  · exact .inl k
  · exact .inr ⟨q, f, rfl, hk q _ rfl h1, h2⟩
theorem ORow.one {h : HS} {sz : Nat} {A : HV} {n : Nat} {cs : List HV} (k : ORow h sz A n cs) : hone A = true := by
  rcases k with ⟨rfl, -⟩ | ⟨q, f, rfl, -⟩ <;> rfl
theorem ORow.hc {h : HS} {sz : Nat} {A : HV} {n : Nat} {cs : List HV} (k : ORow h sz A n cs) : hcells A = some [A] := by
  rcases k with ⟨rfl, -⟩ | ⟨q, f, rfl, -⟩ <;> rfl
theorem ORow.own {h : HS} {sz : Nat} {A : HV} {n : Nat} {cs : List HV} (k : ORow h sz A n cs) {q : Nat} (hq : accId A = some q) : h q = some (.cells cs) := by
  rcases k with ⟨rfl, -⟩ | ⟨q', f, rfl, hq', -⟩
  · cases hq
  · cases hq; exact hq'
/-- A disk, in the memory that is its own. -/
structure PD (h : HS) (d : Nat) (D : DK) (tag : Nat → Nat) (mn ms : Nat) (A : HV) (fid : Nat → Nat) (B : Nat → HV) : Prop where
  at_ : h d = some (.cells (dC D mn ms A))
  now : h mn = some (.map .string (nmF fid D.now) D.now.length)
  safe : h ms = some (.map .string (nmF fid D.safe) D.safe.length)
  ne : mn ≠ ms
  acts : ORow h 3 A D.acts.length (rows (acP fid) D.acts)
  td : tag d = 0 ∧ tag mn = 0 ∧ tag ms = 0
  ta : ∀ q, accId A = some q → tag q = 0 ∧ q ≠ d
  file : ∀ i, i < D.files.length → h (fid i) = some (.cells [B i, .lit (.int .i64 (D.files.getD i fl0).safe)]) ∧ FRow h (B i) (D.files.getD i fl0).b
  ti : ∀ i, i < D.files.length → tag (fid i) = i + 1 ∧ ∀ q, accId (B i) = some q → tag q = i + 1 ∧ q ≠ fid i
def PS (h : HS) (d : Nat) (D : DK) : Prop := ∃ tag mn ms A fid B, PD h d D tag mn ms A fid B
/-- What holds of a disk: K bounds all. -/
structure Wf (K : Nat) (D : DK) : Prop where
  sn : Srt D.now
  ss : Srt D.safe
  nn : ∀ x ∈ D.now, x.2 < D.files.length
  ns : ∀ x ∈ D.safe, x.2 < D.files.length
  room : 0 ≤ D.room ∧ D.room ≤ 1099511627776
  fl : ∀ f ∈ D.files, f.b.length ≤ K ∧ 0 ≤ f.safe ∧ f.safe ≤ f.b.length
  nf : D.files.length ≤ K
  nw : D.now.length ≤ K
  na : D.acts.length ≤ K
  left : -(K : Int) ≤ D.left ∧ D.left ≤ 9223372036854775807
  ops : 0 ≤ D.ops ∧ D.ops ≤ K
  k : K ≤ 1000000
  nl : ∀ x ∈ D.now, x.1.length ≤ 100
  sl : ∀ x ∈ D.safe, x.1.length ≤ 100
  nsf : D.safe.length ≤ K
end Go.Proofs.Ythfoanmokcepcaa.DS
end
section
namespace Go.Proofs.Ythfoanmokcepcaa.DS
open Go.Proofs.Ythfoanmokcepcaa.H Go.Proofs.Ythfoanmokcepcaa.AS
set_option linter.unusedVariables false
set_option linter.unusedSimpArgs false
theorem mem_without {l : List Nm} {n : By} {x : Nm} (h : x ∈ without l n) : x ∈ l := (List.mem_filter.1 h).1
theorem mem_with {l : List Nm} {n : By} {i : Nat} {x : Nm} (h : x ∈ withN l n i) : x ∈ l ∨ x = (n, i) := by
  unfold withN at h
  rcases List.mem_append.1 h with h | h
  · exact .inl (List.mem_filter.1 h).1
  · rcases List.mem_cons.1 h with h | h
    · exact .inr h
    · exact .inl (List.mem_filter.1 h).1
theorem mem_apply {l : List Nm} {a : AC} {x : Nm} (h : x ∈ applyA l a) : x ∈ l ∨ ((a.kind = 1 ∨ a.kind = 2) ∧ x.2 = a.f) := by
  unfold applyA at h
  split at h
  · rename_i hk
    rcases mem_with h with h | rfl
    · exact .inl h
    · exact .inr ⟨.inl hk, rfl⟩
  · split at h
    · rename_i hk
      rcases mem_with h with h | rfl
      · exact .inl (mem_without h)
      · exact .inr ⟨.inr hk, rfl⟩
    · exact .inl (mem_without h)
theorem mem_applyN {l : List Nm} {a : AC} {x : Nm} (h : x ∈ applyA l a) : x ∈ l ∨ (a.kind = 1 ∧ x.1 = a.a) ∨ (a.kind = 2 ∧ x.1 = a.b) := by
  unfold applyA at h
  split at h
  · rename_i hk
    rcases mem_with h with h | rfl
    · exact .inl h
    · exact .inr (.inl ⟨hk, rfl⟩)
  · split at h
    · rename_i hk
      rcases mem_with h with h | rfl
      · exact .inl (mem_without h)
      · exact .inr (.inr ⟨hk, rfl⟩)
    · exact .inl (mem_without h)
theorem okN_len {n : By} (h : okN n = true) : n.length ≤ 100 := (of_decide_eq_true h).2
theorem len_without_le (l : List Nm) (n : By) : (without l n).length ≤ l.length := List.length_filter_le _ _
theorem len_apply (l : List Nm) (a : AC) : (applyA l a).length ≤ l.length + 1 := by
  unfold applyA
  split
  · rw [len_with]; have := len_without_le l a.a; omega
  · split
    · rw [len_with]
      have h1 := len_without_le (without l a.a) a.b
      have h2 := len_without_le l a.a
      omega
    · have := len_without_le l a.a; omega
def ValA (n : Nat) (l : List Nm) (a : AC) : Prop := (a.kind = 1 ∧ a.f < n ∧ okN a.a = true) ∨ (a.kind = 2 ∧ look l a.a = some a.f ∧ okN a.a = true ∧ okN a.b = true) ∨ (a.kind = 3 ∧ okN a.a = true)
def Val (n : Nat) : List Nm → List AC → Prop
  | _, [] => True
  | l, a :: ac => ValA n l a ∧ Val n (applyA l a) ac
theorem ValA.mono {n n' : Nat} {l : List Nm} {a : AC} (h : ValA n l a) (hn : n ≤ n') : ValA n' l a := by
  rcases h with ⟨h1, h2, h3⟩ | h
  · exact .inl ⟨h1, by omega, h3⟩
  · exact .inr h
theorem Val.mono {n n' : Nat} (hn : n ≤ n') : ∀ {ac : List AC} {l : List Nm}, Val n l ac → Val n' l ac
  | [], _, _ => trivial
  | a :: ac, l, ⟨h1, h2⟩ => ⟨h1.mono hn, h2.mono hn⟩
theorem Val.snoc {n : Nat} : ∀ {ac : List AC} {l : List Nm} {a : AC}, Val n l ac → ValA n (ac.foldl applyA l) a → Val n l (ac ++ [a])
  | [], _, _, _, h => ⟨h, trivial⟩
  | b :: ac, l, a, ⟨h1, h2⟩, h => ⟨h1, Val.snoc h2 h⟩
theorem Val.take {n : Nat} : ∀ {ac : List AC} {l : List Nm} (k : Nat), Val n l ac → Val n l (ac.take k)
  | [], l, k, _ => by rw [List.take_nil]; trivial
  | a :: ac, l, 0, _ => trivial
  | a :: ac, l, k + 1, ⟨h1, h2⟩ => ⟨h1, Val.take k h2⟩
theorem mem_foldl {n : Nat} : ∀ {ac : List AC} {l : List Nm}, Val n l ac → (∀ x ∈ l, x.2 < n) → ∀ x ∈ ac.foldl applyA l, x.2 < n
  | [], _, _, h => h
  | a :: ac, l, ⟨h1, h2⟩, h => mem_foldl (ac := ac) (l := applyA l a) h2 fun x hx => by
    rcases mem_apply hx with hx | ⟨hk, e⟩
    · exact h x hx
    · rcases h1 with ⟨k1, k2, -⟩ | ⟨k1, k2, -⟩ | ⟨k1, -⟩
      · omega
      · unfold look at k2
        obtain ⟨y, hy, e'⟩ := Option.map_eq_some_iff.1 k2
        have := h y (List.mem_of_find?_eq_some hy)
        omega
      · omega
theorem len_foldl (ac : List AC) (l : List Nm) : (ac.foldl applyA l).length ≤ l.length + ac.length := by
  induction ac generalizing l with
  | nil => exact Nat.le_refl _
  | cons a ac ih =>
    have h1 := ih (applyA l a)
    have h2 := len_apply l a
    simp only [List.foldl_cons, List.length_cons] at *
    omega
theorem nl_foldl {n : Nat} : ∀ {ac : List AC} {l : List Nm}, Val n l ac → (∀ x ∈ l, x.1.length ≤ 100) → ∀ x ∈ ac.foldl applyA l, x.1.length ≤ 100
  | [], _, _, h => h
  | a :: ac, l, ⟨h1, h2⟩, h => nl_foldl (ac := ac) (l := applyA l a) h2 fun x hx => by
    rcases mem_applyN hx with hx | ⟨hk, e⟩ | ⟨hk, e⟩
    · exact h x hx
    · rw [e]
      rcases h1 with ⟨-, -, k⟩ | ⟨k1, -⟩ | ⟨k1, -⟩
      · exact okN_len k
      · omega
      · omega
    · rw [e]
      rcases h1 with ⟨k1, -⟩ | ⟨-, -, -, k⟩ | ⟨k1, -⟩
      · omega
      · exact okN_len k
      · omega
/-- The names are what the safe ones have become by the acts. -/
structure Ch (D : DK) : Prop where
  now : D.now = D.acts.foldl applyA D.safe
  val : Val D.files.length D.safe D.acts
section
variable {K : Nat} {D : DK}
theorem Wf.mono {K' : Nat} (h : Wf K D) (hk : K ≤ K') (hk' : K' ≤ 1000000) : Wf K' D :=
  ⟨h.sn, h.ss, h.nn, h.ns, h.room, fun f hf => let ⟨h1, h2⟩ := h.fl f hf; ⟨by omega, h2⟩, by have := h.nf; omega, by have := h.nw; omega, by have := h.na; omega, by have := h.left; omega, by have := h.ops; omega, hk', h.nl, h.sl, by have := h.nsf; omega⟩
theorem ask_same (D : DK) : D.ask.now = D.now ∧ D.ask.safe = D.safe ∧ D.ask.acts = D.acts ∧ D.ask.files = D.files ∧ D.ask.room = D.room ∧ D.ask.cut = D.cut := by
  unfold DK.ask
  split <;> exact ⟨rfl, rfl, rfl, rfl, rfl, rfl⟩
theorem Wf.ask (h : Wf K D) (hk : K + 1 ≤ 1000000) : Wf (K + 1) D.ask := by
  have h' := h.mono (Nat.le_succ K) hk
  have h1 := h.left
  have h2 := h.ops
  unfold DK.ask
  split
  · exact ⟨h'.sn, h'.ss, h'.nn, h'.ns, h'.room, h'.fl, h'.nf, h'.nw, h'.na, by show -((K + 1 : Nat) : Int) ≤ D.left ∧ D.left ≤ _; omega, by show 0 ≤ D.ops + 1 ∧ D.ops + 1 ≤ ((K + 1 : Nat) : Int); omega, h'.k, h'.nl, h'.sl, h'.nsf⟩
  · exact ⟨h'.sn, h'.ss, h'.nn, h'.ns, h'.room, h'.fl, h'.nf, h'.nw, h'.na, by show -((K + 1 : Nat) : Int) ≤ D.left - 1 ∧ D.left - 1 ≤ _; omega, by show 0 ≤ D.ops + 1 ∧ D.ops + 1 ≤ ((K + 1 : Nat) : Int); omega, h'.k, h'.nl, h'.sl, h'.nsf⟩
theorem Ch.ask (h : Ch D) : Ch D.ask := by
  obtain ⟨e1, e2, e3, e4, -⟩ := ask_same D
  exact ⟨by rw [e1, e2, e3]; exact h.now, by rw [e2, e3, e4]; exact h.val⟩
theorem Wf.name (h : Wf K D) (hk : K + 1 ≤ 1000000) (a : AC) (ha : a.kind = 1 ∨ a.kind = 2 → a.f < D.files.length) (hb : (a.kind = 1 → a.a.length ≤ 100) ∧ (a.kind = 2 → a.b.length ≤ 100)) : Wf (K + 1) (D.name a) := by
  have h' := h.mono (Nat.le_succ K) hk
  refine ⟨srt_apply h.sn a, h'.ss, fun x hx => ?_, h'.ns, h'.room, h'.fl, h'.nf, ?_, ?_, h'.left, h'.ops, h'.k, fun x hx => ?_, h'.sl, h'.nsf⟩
  · rcases mem_apply hx with hx | ⟨k1, k2⟩
    · exact h.nn x hx
    · show x.2 < D.files.length
      rw [k2]; exact ha k1
  · show (applyA D.now a).length ≤ K + 1
    have h1 := len_apply D.now a
    have h2 := h.nw
    omega
  · show (D.acts ++ [a]).length ≤ K + 1
    have := h.na
    simp
    omega
  · rcases mem_applyN hx with hx | ⟨k1, k2⟩ | ⟨k1, k2⟩
    · exact h.nl x hx
    · rw [k2]; exact hb.1 k1
    · rw [k2]; exact hb.2 k1
theorem Ch.name (h : Ch D) {a : AC} (ha : ValA D.files.length D.now a) : Ch (D.name a) := by
  refine ⟨?_, ?_⟩
  · show applyA D.now a = (D.acts ++ [a]).foldl applyA D.safe
    rw [List.foldl_append, ← h.now]
    rfl
  · exact h.val.snoc (by rw [← h.now]; exact ha)
theorem setF_len (D : DK) (i : Nat) (f : Fl) : (D.setF i f).files.length = D.files.length := by simp [DK.setF]
theorem Wf.setF (h : Wf K D) (i : Nat) {f : Fl} (hf : f.b.length ≤ K ∧ 0 ≤ f.safe ∧ f.safe ≤ f.b.length) : Wf K (D.setF i f) := by
  refine ⟨h.sn, h.ss, fun x hx => by rw [setF_len]; exact h.nn x hx, fun x hx => by rw [setF_len]; exact h.ns x hx, h.room, fun g hg => ?_, by rw [setF_len]; exact h.nf, h.nw, h.na, h.left, h.ops, h.k, h.nl, h.sl, h.nsf⟩
  rcases List.mem_or_eq_of_mem_set (show g ∈ D.files.set i f from hg) with hg | rfl
  · exact h.fl g hg
  · exact hf
theorem Ch.setF (h : Ch D) (i : Nat) (f : Fl) : Ch (D.setF i f) := ⟨h.now, by rw [setF_len]; exact h.val⟩
theorem Wf.newF (h : Wf K D) (hk : K + 1 ≤ 1000000) : Wf (K + 1) { D with files := D.files ++ [fl0] } := by
  have h' := h.mono (Nat.le_succ K) hk
  have hl : (D.files ++ [fl0]).length = D.files.length + 1 := by simp
  refine ⟨h'.sn, h'.ss, fun x hx => ?_, fun x hx => ?_, h'.room, fun g hg => ?_, ?_, h'.nw, h'.na, h'.left, h'.ops, h'.k, h'.nl, h'.sl, h'.nsf⟩
  · show x.2 < (D.files ++ [fl0]).length
    have := h.nn x hx; omega
  · show x.2 < (D.files ++ [fl0]).length
    have := h.ns x hx; omega
  · rcases List.mem_append.1 hg with hg | hg
    · exact h'.fl g hg
    · rw [List.mem_singleton.1 hg]
      exact ⟨Nat.zero_le _, by decide, by decide⟩
  · show (D.files ++ [fl0]).length ≤ K + 1
    have := h.nf; omega
theorem Ch.newF (h : Ch D) : Ch { D with files := D.files ++ [fl0] } := ⟨h.now, h.val.mono (by simp)⟩
theorem Wf.at_ (h : Wf K D) {i : Nat} (hi : i < D.files.length) : (D.files.getD i fl0).b.length ≤ K ∧ 0 ≤ (D.files.getD i fl0).safe ∧ (D.files.getD i fl0).safe ≤ (D.files.getD i fl0).b.length := h.fl _ (getD_memD fl0 hi)
theorem Wf.look (h : Wf K D) {n : By} {i : Nat} (hl : DS.look D.now n = some i) : i < D.files.length := h.nn _ ((look_mem h.sn).1 hl)
theorem err_all {D : DK} {ns : List By} (h : D.err ns = 0) : D.ask.off = false ∧ ns.all okN = true := by
  unfold DK.err at h
  split at h
  · cases h
  · rename_i ho
    split at h
    · rename_i ha
      exact ⟨by simpa using ho, ha⟩
    · cases h
theorem Wf.append (h : Wf K D) (n : By) (b : List Int) (hk : K + b.length + 3 ≤ 1000000) : Wf (K + b.length + 3) (D.append n b).1 := by
  have h1 := h.ask (by omega : K + 1 ≤ 1000000)
  obtain ⟨e1, e2, e3, e4, e5, e6⟩ := ask_same D
  unfold DK.append
  split
  · exact h1.mono (by omega) hk
  · rename_i he
    have hok : okN n = true := by
      have := (err_all (by simpa using he : D.err [n] = 0)).2
      simpa using this
    split
    · exact h1.mono (by omega) hk
    · split
      · rename_i i hl
        have hi := h.look hl
        have ha := h.at_ hi
        refine (h1.mono (by omega) hk).setF i ⟨?_, ha.2.1, ?_⟩
        · show ((D.files.getD i fl0).b ++ b).length ≤ _
          rw [List.length_append]
          omega
        · show (D.files.getD i fl0).safe ≤ (((D.files.getD i fl0).b ++ b).length : Int)
          rw [List.length_append]
          omega
      · have h2 := (h1.newF (by omega : K + 1 + 1 ≤ 1000000))
        rw [e4] at h2
        have h3 := h2.name (by omega : K + 1 + 1 + 1 ≤ 1000000) ⟨1, n, [], D.files.length⟩ (fun _ => by show D.files.length < (D.files ++ [fl0]).length; simp) ⟨fun _ => okN_len hok, fun e => (by cases e)⟩
        exact (h3.mono (by omega) hk).setF D.files.length ⟨by show b.length ≤ _; omega, Int.le_refl 0, by show (0 : Int) ≤ _; omega⟩
theorem Ch.append (h : Ch D) (n : By) (b : List Int) : Ch (D.append n b).1 := by
  have h1 := h.ask
  obtain ⟨e1, e2, e3, e4, e5, e6⟩ := ask_same D
  unfold DK.append
  split
  · exact h1
  · rename_i he
    have hok : okN n = true := by
      have := (err_all (by simpa using he : D.err [n] = 0)).2
      simpa using this
    split
    · exact h1
    · split
      · exact h1.setF _ _
      · have h2 := h1.newF
        rw [e4] at h2
        exact (h2.name (.inl ⟨rfl, by show D.files.length < (D.files ++ [fl0]).length; simp, hok⟩)).setF _ _
theorem Wf.sync (h : Wf K D) (n : By) (hk : K + 1 ≤ 1000000) : Wf (K + 1) (D.sync n).1 := by
  have h1 := h.ask hk
  unfold DK.sync
  split
  · exact h1
  · split
    · exact h1
    · rename_i i hl
      have ha := h.at_ (h.look hl)
      exact h1.setF i ⟨by show (D.files.getD i fl0).b.length ≤ _; omega, Int.natCast_nonneg _, Int.le_refl _⟩
theorem Ch.sync (h : Ch D) (n : By) : Ch (D.sync n).1 := by
  have h1 := h.ask
  unfold DK.sync
  split
  · exact h1
  · split
    · exact h1
    · exact h1.setF _ _
theorem Wf.rename (h : Wf K D) (n m : By) (hk : K + 2 ≤ 1000000) : Wf (K + 2) (D.rename n m).1 := by
  have h1 := h.ask (by omega : K + 1 ≤ 1000000)
  obtain ⟨e1, e2, e3, e4, e5, e6⟩ := ask_same D
  unfold DK.rename
  split
  · exact h1.mono (by omega) hk
  · rename_i he
    have hok := (err_all (by simpa using he : D.err [n, m] = 0)).2
    simp only [List.all_cons, List.all_nil, Bool.and_true, Bool.and_eq_true] at hok
    split
    · exact h1.mono (by omega) hk
    · rename_i i hl
      split
      · exact h1.mono (by omega) hk
      · exact h1.name hk ⟨2, n, m, i⟩ (fun _ => by rw [e4]; exact h.look hl) ⟨fun e => (by cases e), fun _ => okN_len hok.2⟩
theorem Ch.rename (h : Ch D) (n m : By) : Ch (D.rename n m).1 := by
  have h1 := h.ask
  obtain ⟨e1, e2, e3, e4, e5, e6⟩ := ask_same D
  unfold DK.rename
  split
  · exact h1
  · rename_i he
    have hok := (err_all (by simpa using he : D.err [n, m] = 0)).2
    simp only [List.all_cons, List.all_nil, Bool.and_true, Bool.and_eq_true] at hok
    split
    · exact h1
    · rename_i i hl
      split
      · exact h1
      · exact h1.name (.inr (.inl ⟨rfl, by rw [e1]; exact hl, hok.1, hok.2⟩))
theorem Wf.syncDir (h : Wf K D) (hk : K + 1 ≤ 1000000) : Wf (K + 1) D.syncDir.1 := by
  have h1 := h.ask hk
  obtain ⟨e1, e2, e3, e4, e5, e6⟩ := ask_same D
  unfold DK.syncDir
  split
  · exact h1
  · exact ⟨h1.sn, h.sn, h1.nn, fun x hx => by show x.2 < D.ask.files.length; rw [e4]; exact h.nn x hx, h1.room, h1.fl, h1.nf, h1.nw, Nat.zero_le _, h1.left, h1.ops, h1.k, h1.nl, h.nl, by show D.now.length ≤ K + 1; have := h.nw; omega⟩
theorem Ch.syncDir (h : Ch D) : Ch D.syncDir.1 := by
  have h1 := h.ask
  obtain ⟨e1, e2, e3, e4, e5, e6⟩ := ask_same D
  unfold DK.syncDir
  split
  · exact h1
  · exact ⟨e1, trivial⟩
theorem Wf.cutAt (h : Wf K D) {n : Int} (hn : n ≤ 9223372036854775807) : Wf K (D.cutAt n) := ⟨h.sn, h.ss, h.nn, h.ns, h.room, h.fl, h.nf, h.nw, h.na, by show -(K : Int) ≤ max n 0 ∧ max n 0 ≤ _; omega, h.ops, h.k, h.nl, h.sl, h.nsf⟩
theorem Ch.cutAt (h : Ch D) (n : Int) : Ch (D.cutAt n) := ⟨h.now, h.val⟩
end
end Go.Proofs.Ythfoanmokcepcaa.DS
end
section
namespace Go.Proofs.Ythfoanmokcepcaa.DS
open Go.Proofs.Ythfoanmokcepcaa.H Go.Proofs.Ythfoanmokcepcaa.AS Go.Proofs.Ythfoanmokcepcaa.X0
set_option linter.unusedVariables false
set_option linter.unusedSimpArgs false
set_option maxRecDepth 100000
theorem hvNil (p o : Nat) : vNil (.ptr p o) = some (.ptr p o) := rfl
theorem hvFld (k p : Nat) : vField k (.ptr p 0) = some (.ptr p k) := by simp [vField]
theorem boxI {s : HS} {v : HV} {cs : List HV} {K : HV → HS → Prop} (hc : hcells v = some cs) (h : ∀ id, s id = none → K (.ptr id 0) (s.set id (.cells cs))) : hBox s v K := by
  unfold hBox
  rw [hc]
  exact h
theorem store1 {s : HS} {g k n : Nat} {cs : List HV} {v : HV} {K : HS → Prop} (hg : s g = some (.cells cs)) (hk : k < cs.length) (hv : hcells v = some [v]) (ho : hone v = true) (hn : n = 1) (hK : K (s.set g (.cells (cs.set k v)))) : hStore s (.ptr g k) v n K := by
  subst hn
  simp only [hStore, hv, hg]
  refine ⟨rfl, hk, fun x hx => by rw [List.mem_singleton.1 hx]; exact ho, ?_⟩
  have e : putCells cs k [v] = cs.set k v := by
    unfold putCells
    rw [List.set_eq_take_append_cons_drop, if_pos hk]
    simp
  rw [e]
  exact hK
theorem eqp27 (g o : Nat) : vCmp (Try.prog.underlying 27) .eql (.ptr g o) (.lit (.pointer none)) = some (.lit (.bool false)) := rfl
theorem eqn27 : vCmp (Try.prog.underlying 27) .eql (.lit (.pointer none)) (.lit (.pointer none)) = some (.lit (.bool true)) := rfl
theorem eqp77 (g o : Nat) : vCmp (Try.prog.underlying 77) .eql (.ptr g o) (.lit (.pointer none)) = some (.lit (.bool false)) := rfl
theorem eqn77 : vCmp (Try.prog.underlying 77) .eql (.lit (.pointer none)) (.lit (.pointer none)) = some (.lit (.bool true)) := rfl
theorem eqm72 (g : Nat) : vCmp (Try.prog.underlying 72) .eql (.map g) (.lit (.map none)) = some (.lit (.bool false)) := rfl
theorem eql28 (a b : Int) : vCmp (Try.prog.underlying 28) .eql (.lit (.int .i64 a)) (.lit (.int .i64 b)) = some (.lit (.bool (decide (a = b)))) := by
  simp only [vCmp, vBin, if_true, Option.some.injEq, HV.lit.injEq, Value.bool.injEq]
  congr 1
theorem neq28 (a c : Int) : vCmp (Try.prog.underlying 28) .neq (.lit (.int .i64 a)) (.lit (.int .i64 c)) = some (.lit (.bool (!decide (a = c)))) := by
  simp only [vCmp, vBin, if_true, Option.some.injEq, HV.lit.injEq, Value.bool.injEq, bne]
  congr 1
theorem eql3 (a b : Int) : vCmp (Try.prog.underlying 3) .eql (.lit (.int .i64 a)) (.lit (.int .i64 b)) = some (.lit (.bool (decide (a = b)))) := by
  simp only [vCmp, vBin, if_true, Option.some.injEq, HV.lit.injEq, Value.bool.injEq]
  congr 1
theorem neq3 (a c : Int) : vCmp (Try.prog.underlying 3) .neq (.lit (.int .i64 a)) (.lit (.int .i64 c)) = some (.lit (.bool (!decide (a = c)))) := by
  simp only [vCmp, vBin, if_true, Option.some.injEq, HV.lit.injEq, Value.bool.injEq, bne]
  congr 1
theorem lenS (x : By) (u : HS) : vLenT (Try.prog.underlying 9) u (strV x) = some (.lit (.int .i64 ((x.length : Nat) : Int))) := by
  show some (HV.lit (.int .i64 ((ByteArray.mk x.toArray).size : Nat))) = _
  rw [show (ByteArray.mk x.toArray).size = x.length from by show x.toArray.size = _; simp]
section
variable {s h : HS} {d K : Nat} {D : DK} {tag : Nat → Nat} {mn ms : Nat} {A : HV} {fid : Nat → Nat} {B : Nat → HV}
theorem PD.ld (hP : PD h d D tag mn ms A fid B) (hl : HS.le h s) (k : Nat) : vLoad s (.ptr d k) 1 false = (dC D mn ms A)[k]? := load_cell k 1 (hl _ _ hP.at_)
/-- Numbers of its own are written. -/
theorem PD.put (hP : PD h d D tag mn ms A fid B) (D' : DK) (e1 : D'.now = D.now) (e2 : D'.safe = D.safe) (e3 : D'.acts = D.acts) (e4 : D'.files = D.files) : PD (h.set d (.cells (dC D' mn ms A))) d D' tag mn ms A fid B := by
  have nd : ∀ k ob, h k = some ob → (∀ cs, ob ≠ .cells cs) → k ≠ d := fun k ob hk hc e => by
    rw [e, hP.at_] at hk
    injection hk with hk
    exact hc _ hk.symm
  have n1 := nd _ _ hP.now (fun cs e => by cases e)
  have n2 := nd _ _ hP.safe (fun cs e => by cases e)
  refine ⟨set_at _ _ _, by rw [set_ne _ _ n1, e1]; exact hP.now, by rw [set_ne _ _ n2, e2]; exact hP.safe, hP.ne, ?_, hP.td, hP.ta, fun i hi => ?_, by rw [e4]; exact hP.ti⟩
  · rw [e3]
    exact hP.acts.keep fun q ob hq hob => by rw [set_ne _ _ (hP.ta q hq).2]; exact hob
  · rw [e4] at hi ⊢
    obtain ⟨h1, h2⟩ := hP.file i hi
    obtain ⟨t1, t2⟩ := hP.ti i hi
    have t0 := hP.td.1
    refine ⟨?_, h2.keep fun q ob hq hob => ?_⟩
    · rw [set_ne _ _ (fun e => by rw [e, t0] at t1; omega)]
      exact h1
    · rw [set_ne _ _ (fun e => by have := (t2 q hq).1; rw [e, t0] at this; omega)]
      exact hob
/-- A row of names, that is not the disk's own. -/
def NRow (h s : HS) (a : HV) (ns : List By) : Prop := (a = nilV ∧ ns = []) ∨ ∃ X f, a = .view X 0 1 ns.length f ∧ s X = some (.cells (rows strC ns)) ∧ h X = none
theorem strC_len (k : By) : (strC k).length = 1 := rfl
theorem may56 (n : By) (s : HS) : HC Try.prog 56 [strV n] s (fun v t => t = s ∧ v = .lit (.bool (okN n))) := by
  refine HC56 ?_
  unfold c56 okN
  simp only [lenS, bindO, geq_n, leq_n]
  by_cases h1 : (1 : Int) ≤ (n.length : Int)
  · simp only [h1, decide_true, hcond]
    refine ⟨trivial, ?_⟩
    congr 3
    simp only [eq_iff_iff]
    omega
  · simp only [h1, decide_false, hcond]
    refine ⟨trivial, ?_⟩
    rw [decide_eq_false (by omega)]
theorem asked34 (hP : PD h d D tag mn ms A fid B) (hl : HS.le h s) (hw : Wf K D) {a1 : HV} {ns : List By} (ha : NRow h s a1 ns) (hns : ns.length ≤ 1000) :
    HC Try.prog 34 [.ptr d 0, a1] s (fun v t => v = .lit (.int .i64 (D.err ns)) ∧ t = s.set d (.cells (dC D.ask mn ms A))) := by
  refine HC34 ?_
  unfold c34
  have hd := hl _ _ hP.at_
  have b1 := hw.ops
  have b2 := hw.left
  have b3 := hw.k
  refine Join.of (fun xs t => t = s ∧ xs = [.lit (.bool false)]) ?_ ?_
  rotate_left
  · intro K1 hK1
    simp only [eqp27, bindO, hcond, hvNil, hvFld, hP.ld hl, dC, List.getElem?_cons_succ, List.getElem?_cons_zero, eqm72]
    exact hK1 _ _ ⟨rfl, rfl⟩
  rintro _ t ⟨rfl, rfl⟩
  simp only [List.headD_cons, hcond, bindO, hvNil, hvFld, hP.ld hl, dC, List.getElem?_cons_succ, List.getElem?_cons_zero]
  rw [add_n (by omega) (by omega)]
  simp only
  refine store1 hd (by simp [dC]) (hc_int _ _) (ho_int _ _) rfl ?_
  rw [show (dC D mn ms A).set 7 (.lit (.int .i64 (D.ops + 1))) = dC { D with ops := D.ops + 1 } mn ms A from rfl]
  have hasko : D.ask.off = decide (D.off = true ∨ (D.cut = true ∧ D.left = 0)) := by
    unfold DK.ask
    split
    · rename_i hc; rw [decide_eq_true hc]
    · rename_i hc
      rw [decide_eq_false hc]
      cases ho : D.off with
      | false => rfl
      | true => exact absurd (.inl ho) hc
  have hNX : ∀ X f, a1 = .view X 0 1 ns.length f → h X = none → X ≠ d := fun X f _ hX e => by rw [e, hP.at_] at hX; cases hX
  refine Join.of (fun _ u => u = t.set d (.cells (dC { D with ops := D.ops + 1, off := D.ask.off } mn ms A))) ?_ ?_
  · rintro _ u hu
    have hud : u d = some (.cells (dC { D with ops := D.ops + 1, off := D.ask.off } mn ms A)) := by rw [hu]; exact set_at _ _ _
    have ld := fun k => load_cell k 1 hud
    simp only [ld, dC, List.getElem?_cons_succ, List.getElem?_cons_zero, hvNil, hvFld]
    cases ho : D.ask.off with
    | true =>
      rw [ho] at hu
      refine ⟨?_, ?_⟩
      · unfold DK.err; rw [if_pos ho]
      · rw [ho] at hasko
        have hc := of_decide_eq_true hasko.symm
        rw [hu]
        unfold DK.ask
        rw [if_pos hc]
        rfl
    | false =>
      have hc := of_decide_eq_false (hasko.symm.trans ho)
      have hask : D.ask = { D with ops := D.ops + 1, left := D.left - 1 } := by unfold DK.ask; rw [if_neg hc]
      have hoff : D.off = false := by
        cases h' : D.off with
        | false => rfl
        | true => exact absurd (.inl h') hc
      rw [sub_n (by omega) (by omega)]
      simp only
      refine store1 hud (by simp [dC]) (hc_int _ _) (ho_int _ _) rfl ?_
      rw [hu, set_set]
      rw [show (dC { D with ops := D.ops + 1, off := D.ask.off } mn ms A).set 6 (.lit (.int .i64 (D.left - 1))) = dC D.ask mn ms A from by rw [ho, hask]; unfold dC; rw [hoff]; rfl]
      have herr : D.err ns = if ns.all okN = true then 0 else 1 := by unfold DK.err; rw [if_neg (by rw [ho]; exact Bool.false_ne_true)]
      rw [herr]
      have hlen : vLenT (Try.prog.underlying 41) (t.set d (.cells (dC D.ask mn ms A))) a1 = some (.lit (.int .i64 ((ns.length : Nat) : Int))) := by
        rcases ha with ⟨rfl, rfl⟩ | ⟨X, f, rfl, -⟩ <;> rfl
      rw [hlen]
      simp only
      refine HLoop.ghost (σ := Nat) (fun i => [.lit (.int .i64 (i : Int))]) (fun i u => i ≤ ns.length ∧ u = t.set d (.cells (dC D.ask mn ms A)) ∧ (ns.take i).all okN = true) (fun i => ns.length - i) 0 rfl ⟨Nat.zero_le _, rfl, by simp⟩ ?_
      rintro i u K ⟨h1, rfl, h3⟩ hK
      simp only [List.headD_cons, lss_i]
      by_cases hlt : i < ns.length
      · rcases ha with ⟨rfl, rfl⟩ | ⟨X, f, rfl, hX, hhX⟩
        · exact absurd hlt (Nat.not_lt_zero _)
        have hne := hNX X f rfl hhX
        have hX' : (t.set d (.cells (dC D.ask mn ms A))) X = some (.cells (rows strC ns ++ [])) := by rw [set_ne _ _ hne, List.append_nil]; exact hX
        have x1 : vIdx 1 (.view X 0 1 ns.length f) (.lit (.int .i64 (i : Int))) = some (.ptr X (0 + i * 1)) := idx_view .i64 hlt
        have x2 := load_rows1 strC_len [] hX' hlt (j := 0) (n := 1) (by omega)
        rw [Nat.mul_one, Nat.add_zero] at x2
        rw [Nat.mul_one, Nat.zero_add] at x1
        simp only [hlt, decide_true, x1, x2, strC, List.getElem?_cons_zero]
        refine (may56 _ _).mono ?_
        rintro _ w ⟨rfl, rfl⟩
        have htk := take_succ' [] ns hlt
        simp only [vUn]
        cases hm : okN (ns.getD i []) with
        | true =>
          simp only [Bool.not_true, inc_i hlt (by omega)]
          exact hK (i + 1) _ _ rfl ⟨hlt, rfl, by rw [htk, List.all_append, h3, List.all_cons, hm]; rfl⟩ (by omega)
        | false =>
          simp only [Bool.not_false]
          refine ⟨?_, by unfold dC; rw [ho]⟩
          rw [if_neg]
          intro hall
          have := List.all_eq_true.1 hall _ (getD_memD [] hlt)
          rw [hm] at this
          cases this
      · obtain rfl : i = ns.length := by omega
        rw [List.take_length] at h3
        simp only [hlt, decide_false, h3, if_true]
        exact ⟨trivial, by unfold dC; rw [ho]⟩
  · intro K16 hK16
    have hud : (t.set d (.cells (dC { D with ops := D.ops + 1 } mn ms A))) d = some (.cells (dC { D with ops := D.ops + 1 } mn ms A)) := set_at _ _ _
    have hset : ∀ o, (t.set d (.cells (dC { D with ops := D.ops + 1 } mn ms A))).set d o = t.set d o := fun o => set_set _ _ _ _
    generalize t.set d (.cells (dC { D with ops := D.ops + 1 } mn ms A)) = u at hud hset ⊢
    have ld := fun k => load_cell k 1 hud
    simp only [ld, dC, List.getElem?_cons_succ, List.getElem?_cons_zero, hvNil, hvFld]
    cases ho : D.off with
    | true =>
      refine store1 hud (by simp [dC]) (hc_bool _) (ho_bool _) rfl ?_
      rw [hset]
      refine hK16 _ _ ?_
      rw [hasko, decide_eq_true (.inl ho)]
      rfl
    | false =>
      cases hcu : D.cut with
      | true =>
        simp only [eql3]
        refine store1 hud (by simp [dC]) (hc_bool _) (ho_bool _) rfl ?_
        rw [hset]
        refine hK16 _ _ ?_
        rw [hasko]
        have : decide (D.off = true ∨ (D.cut = true ∧ D.left = 0)) = decide (D.left = 0) := by simp [ho, hcu]
        rw [this]
        unfold dC
        simp only [hcu]
        rfl
      | false =>
        simp only
        refine store1 hud (by simp [dC]) (hc_bool _) (ho_bool _) rfl ?_
        rw [hset]
        refine hK16 _ _ ?_
        rw [hasko]
        have : decide (D.off = true ∨ (D.cut = true ∧ D.left = 0)) = false := by simp [ho, hcu]
        rw [this]
        unfold dC
        simp only [hcu]
        rfl
end
end Go.Proofs.Ythfoanmokcepcaa.DS
end
section
namespace Go.Proofs.Ythfoanmokcepcaa.DS
open Go.Proofs.Ythfoanmokcepcaa.H Go.Proofs.Ythfoanmokcepcaa.AS Go.Proofs.Ythfoanmokcepcaa.X0
set_option linter.unusedVariables false
set_option linter.unusedSimpArgs false
set_option maxRecDepth 100000
theorem lookN {u : HS} {mn k : Nat} {fid : Nat → Nat} {l : List Nm} (hm : u mn = some (.map .string (nmF fid l) k)) (n : By) :
    vLookup u (Try.prog.underlying 9) (.lit (.pointer none)) (.map mn) (strV n) false = some (match look l n with | some i => .ptr (fid i) 0 | none => nilP) := by
  rw [Try.underlying9]
  simp only [vLookup, strV, keyIs, if_true, hm, sameKey, Bool.false_eq_true, if_false]
  have := nmF_at (fid := fid) (l := l) n
  unfold encS at this
  rw [this]
  cases look l n <;> rfl
/-- Something is put behind a row of its own. -/
theorem ORow.app {s h : HS} {sz by_ n k : Nat} {A x : HV} {cs vs : List HV} {K : HV → HS → Prop} (hA : ORow h sz A n cs) (hle : HS.le h s) (hx : lcells s sz x = some vs) (hk : H.llen x = k) (h0 : k ≠ 0) (hv : vs.length = k * sz) (hr : room (n + k) by_) (hr' : room k by_)
    (hK : ∀ A' s' h', ORow h' sz A' (n + k) (cs ++ vs) → Turn s h s' h' → (∀ j ob, accId A ≠ some j → h j = some ob → h' j = some ob) → (∀ j, accId A' = some j → s j = none) → K A' s') : hAppend s sz by_ A x K := by
  unfold hAppend
  rw [hx]
  rcases hA with ⟨rfl, rfl, rfl⟩ | ⟨q, f, rfl, hq, hc⟩
  · show (if H.llen x = 0 then K nilV s else _)
    rw [hk, if_neg h0]
    refine ⟨hr', fun id hid => ?_⟩
    refine hK _ _ (h.set id (.cells vs)) (.inr ⟨id, _, by rw [Nat.zero_add], by rw [List.nil_append]; exact set_at _ _ _, by rw [List.nil_append, Nat.zero_add]; exact hv⟩) (Turn.new hle hid _) (fun j ob _ hj => ?_) (fun j hj => by cases hj; exact hid)
    rw [set_ne _ _ (ne_new (hle _ _ hj) hid)]
    exact hj
  · have hq' := hle _ _ hq
    simp only [hq', hk]
    refine ⟨trivial, by rw [hc]; omega, ?_⟩
    have hcut : (cs.drop 0).take (n * sz) = cs := by rw [List.drop_zero]; exact List.take_of_length_le (by rw [hc]; exact Nat.le_refl _)
    have hlen : (cs ++ vs).length = (n + k) * sz := by rw [List.length_append, hc, hv, Nat.add_mul]
    cases f with
    | true =>
      simp only [if_true]
      rw [if_neg h0]
      refine ⟨hr, fun id hid => ?_⟩
      rw [hcut]
      refine hK _ _ (h.set id (.cells (cs ++ vs))) (.inr ⟨id, _, rfl, set_at _ _ _, hlen⟩) (Turn.new hle hid _) (fun j ob _ hj => ?_) (fun j hj => by cases hj; exact hid)
      rw [set_ne _ _ (ne_new (hle _ _ hj) hid)]
      exact hj
    | false =>
      simp only [Bool.false_eq_true, if_false, Nat.zero_add, hc, if_true]
      refine ⟨hr, fun id hid => ?_⟩
      rw [List.drop_zero]
      have hne : q ≠ id := ne_new hq' hid
      refine hK _ _ ((h.del q).set id (.cells (cs ++ vs))) (.inr ⟨id, _, rfl, set_at _ _ _, hlen⟩) ?_ (fun j ob hj1 hj => ?_) (fun j hj => by cases hj; exact hid)
      · exact (Turn.del hle hq).trans (Turn.new (Turn.del hle hq).1 (by rw [del_ne _ (Ne.symm hne)]; exact hid) _)
      · rw [set_ne _ _ (ne_new (hle _ _ hj) hid), del_ne _ (fun e => hj1 (by rw [e]; rfl))]
        exact hj
section
variable {s h : HS} {d K : Nat} {D : DK} {tag : Nat → Nat} {mn ms : Nat} {A : HV} {fid : Nat → Nat} {B : Nat → HV}
/-- A row of names that is handed in: nil, or a literal. -/
def LRow (h s : HS) (a : HV) (ns : List By) : Prop := (a = nilV ∧ ns = []) ∨ ∃ X, a = .view X 0 1 ns.length true ∧ s X = some (.cells (rows strC ns)) ∧ h X = none
theorem app_names {s1 : HS} {X : Nat} {n : By} {a2 : HV} {ns : List By} {Kk : HV → HS → Prop} (ha1 : LRow h s1 a2 ns) (hXl : lcells s1 1 (.view X 0 1 1 true) = some (strC n)) (hle1 : HS.le s s1) (hl : HS.le h s) (hns : ns.length ≤ 100)
    (hK : ∀ a3 s3, NRow h s3 a3 (ns ++ [n]) → HS.le s s3 → Kk a3 s3) : hAppend s1 1 16 a2 (.view X 0 1 1 true) Kk := by
  rcases ha1 with ⟨rfl, rfl⟩ | ⟨Y, rfl, hY, hhY⟩
  · unfold hAppend
    rw [hXl]
    show (if H.llen (.view X 0 1 1 true) = 0 then Kk nilV s1 else room (H.llen (.view X 0 1 1 true)) 16 ∧ hNew s1 (.cells (strC n)) (fun id => .view id 0 1 (H.llen (.view X 0 1 1 true)) false) Kk)
    rw [if_neg (show ¬ (H.llen (.view X 0 1 1 true) = 0) from (by show ¬ (1 = 0); omega))]
    refine ⟨⟨by show 1 * 16 ≤ _; omega, by show 1 ≤ _; omega⟩, fun id hid => ?_⟩
    exact hK _ _ (.inr ⟨id, _, rfl, by rw [set_at]; rfl, none_of_le hl (none_of_le hle1 hid)⟩) (HS.le.trans hle1 (le_set_new _ (le_refl' s1) hid))
  · unfold hAppend
    rw [hXl]
    have hyl : (rows strC ns).length = ns.length * 1 := rows_len strC_len ns
    simp only [hY, if_true]
    refine ⟨trivial, by rw [hyl]; omega, ?_⟩
    rw [if_neg (show ¬ (H.llen (.view X 0 1 1 true) = 0) from (by show ¬ (1 = 0); omega))]
    refine ⟨⟨by show (ns.length + 1) * 16 ≤ _; omega, by show ns.length + 1 ≤ _; omega⟩, fun id hid => ?_⟩
    refine hK _ _ (.inr ⟨id, _, by rw [List.length_append]; rfl, ?_, none_of_le hl (none_of_le hle1 hid)⟩) (HS.le.trans hle1 (le_set_new _ (le_refl' s1) hid))
    rw [set_at, List.drop_zero, List.take_of_length_le (by rw [hyl]; exact Nat.le_refl _), rows_app, rows_one]
def hasV (D : DK) (fid : Nat → Nat) (n : By) (ns : List By) : HV := if D.err ns ≠ 0 then .tup [nilP, .lit (.int .i64 (D.err ns))] else match look D.now n with
  | none => .tup [nilP, .lit (.int .i64 5)]
  | some i => .tup [.ptr (fid i) 0, .lit (.int .i64 0)]
theorem has36 (hP : PD h d D tag mn ms A fid B) (hl : HS.le h s) (hw : Wf K D) (n : By) {a2 : HV} {ns : List By} (ha : LRow h s a2 ns) (hns : ns.length ≤ 100) :
    HC Try.prog 36 [.ptr d 0, strV n, a2] s (fun v t => v = hasV D fid n (ns ++ [n]) ∧ Turn s h t (h.set d (.cells (dC D.ask mn ms A)))) := by
  refine HC36 ?_
  unfold c36
  refine hBS_lit (vs := strC n) rfl rfl rfl fun X hX => ?_
  have hle1 := le_set_new (.cells (strC n)) (le_refl' s) hX
  have hXl : lcells (s.set X (.cells (strC n))) 1 (.view X 0 1 1 true) = some (strC n) := lit_cells (set_at _ _ _) rfl
  have ha1 : LRow h (s.set X (.cells (strC n))) a2 ns := by
    rcases ha with h1 | ⟨Y, h1, h2, h3⟩
    · exact .inl h1
    · exact .inr ⟨Y, h1, hle1 _ _ h2, h3⟩
  generalize s.set X (.cells (strC n)) = s1 at *
  refine app_names ha1 hXl hle1 hl hns fun a3 s3 h3 hle => ?_
  refine (asked34 hP (HS.le.trans hl hle) hw h3 (by rw [List.length_append]; simp; omega)).mono ?_
  rintro _ t ⟨rfl, ht⟩
  have hT : Turn s h t (h.set d (.cells (dC D.ask mn ms A))) := by
    rw [ht]
    exact (Turn.junk hl hle).trans (Turn.set (HS.le.trans hl hle) hP.at_ _)
  have hP' := hP.put D.ask (ask_same D).1 (ask_same D).2.1 (ask_same D).2.2.1 (ask_same D).2.2.2.1
  have hm := hT.1 _ _ hP'.now
  rw [(ask_same D).1] at hm
  have ld := fun k => hP'.ld hT.1 k
  unfold hasV
  by_cases he : D.err (ns ++ [n]) = 0
  · simp only [bindO, neq28, hvNil, hvFld, ld, dC, List.getElem?_cons_succ, List.getElem?_cons_zero, lookN hm, he, decide_true, Bool.not_true, hcond, ne_eq, not_true, if_false]
    cases hk : look D.now n with
    | none =>
      simp only [nilP, eqn77]
      exact ⟨trivial, hT⟩
    | some i =>
      simp only [eqp77]
      exact ⟨trivial, hT⟩
  · simp only [bindO, neq28, he, decide_false, Bool.not_false, hcond, ne_eq, not_false_iff, if_true, nilP]
    exact ⟨trivial, hT⟩
/-- A name's act, done to a map. -/
theorem does39 {m : Nat} {l : List Nm} (hm : s m = some (.map .string (nmF fid l) l.length)) (hs : Srt l) {nf : Nat} {a : AC} (ha : ValA nf l a) :
    HC Try.prog 39 [.map m, .agg (acP fid a)] s (fun v t => v = .tup [] ∧ ∃ u, HS.le s u ∧ t = u.set m (.map .string (nmF fid (applyA l a)) (applyA l a).length)) := by
  refine HC39 ?_
  unfold c39
  refine boxI (hc_agg _) fun X hX => ?_
  have hle := le_set_new (.cells (acP fid a)) (le_refl' s) hX
  have lX : ∀ k, vLoad (s.set X (.cells (acP fid a))) (.ptr X k) 1 false = (acP fid a)[k]? := fun k => load_cell k 1 (set_at _ _ _)
  have hmX : m ≠ X := ne_new hm hX
  have lX2 : ∀ o k, vLoad ((s.set X (.cells (acP fid a))).set m o) (.ptr X k) 1 false = (acP fid a)[k]? := fun o k => load_cell k 1 (by rw [set_ne _ _ (Ne.symm hmX)]; exact set_at _ _ _)
  have hm1 := hle _ _ hm
  generalize s.set X (.cells (acP fid a)) = u at *
  have okne : ∀ n : By, okN n = true → n ≠ [] := fun n hn e => by subst e; cases hn
  have seq : ∀ n : By, n ≠ [] → vCmp (Try.prog.underlying 9) .neq (strV n) (.lit (.string { data := #[] })) = some (.lit (.bool true)) := fun n hn => by
    rw [show (HV.lit (.string { data := #[] })) = strV [] from rfl, neq_s, decide_eq_false hn]
    rfl
  have seq0 : vCmp (Try.prog.underlying 9) .neq (strV []) (.lit (.string { data := #[] })) = some (.lit (.bool false)) := by
    rw [show (HV.lit (.string { data := #[] })) = strV [] from rfl, neq_s]
    rfl
  have hset : ∀ (u : HS) (l : List Nm) (n : By) (i : Nat) (Kk : HS → Prop), u m = some (.map .string (nmF fid l) l.length) → Srt l → Kk (u.set m (.map .string (nmF fid (withN l n i)) (withN l n i).length)) → hMapSet u (Try.prog.underlying 9) (.map m) (strV n) (.ptr (fid i) 0) Kk := fun u l n i Kk hu hsl hK => by
    rw [Try.underlying9]
    simp only [hMapSet, strV, hu]
    refine ⟨rfl, rfl, ?_⟩
    rw [show (Value.string ⟨n.toArray⟩) = encS n from rfl, nmF_put]
    have : (if (nmF fid l (encS n)).isSome = true then l.length else l.length + 1) = (withN l n i).length := by
      rw [nmF_at, Option.isSome_map, len_with, len_without hsl]
      cases hk : look l n with
      | none => rfl
      | some j =>
        have : l ≠ [] := fun e => by rw [e] at hk; cases hk
        have := List.length_pos_iff.2 this
        simp
        omega
    rw [this]
    exact hK
  have hdel : ∀ (u : HS) (l : List Nm) (n : By) (Kk : HS → Prop), u m = some (.map .string (nmF fid l) l.length) → Srt l → Kk (u.set m (.map .string (nmF fid (without l n)) (without l n).length)) → hMapDel u (Try.prog.underlying 9) (.map m) (strV n) Kk := fun u l n Kk hu hsl hK => by
    rw [Try.underlying9]
    simp only [hMapDel, strV, hu]
    refine ⟨rfl, rfl, ?_⟩
    rw [show (Value.string ⟨n.toArray⟩) = encS n from rfl, nmF_del]
    have : (if (nmF fid l (encS n)).isSome = true then l.length - 1 else l.length) = (without l n).length := by
      rw [nmF_at, Option.isSome_map, len_without hsl]
    rw [this]
    exact hK
  rcases ha with ⟨k1, k2, k3⟩ | ⟨k1, k2, k3, k4⟩ | ⟨k1, k3⟩
  · have hac : acP fid a = [strV [], strV a.a, .ptr (fid a.f) 0] := by unfold acP; rw [if_pos k1]
    have hap : applyA l a = withN l a.a a.f := by unfold applyA; rw [if_pos k1]
    rw [hac] at lX lX2 
    rw [hap]
    simp only [hvFld, bindO, lX, List.getElem?_cons_succ, List.getElem?_cons_zero]
    refine Join.of (fun xs t => t = u ∧ xs = [.ptr (fid a.f) 0]) ?_ ?_
    · rintro _ t ⟨rfl, rfl⟩
      simp only [List.headD_cons, hvFld, bindO, lX, List.getElem?_cons_succ, List.getElem?_cons_zero, seq _ (okne _ k3), hcond]
      exact hset _ _ _ _ _ hm1 hs ⟨trivial, _, hle, rfl⟩
    · intro K5 hK5
      simp only [hvFld, bindO, lX, List.getElem?_cons_succ, List.getElem?_cons_zero, seq0, hcond]
      exact hK5 _ _ ⟨rfl, rfl⟩
  · have hn1 : ¬ a.kind = 1 := by omega
    have hac : acP fid a = [strV a.a, strV a.b, nilP] := by unfold acP; rw [if_neg hn1, if_pos k1]
    have hap : applyA l a = withN (without l a.a) a.b a.f := by unfold applyA; rw [if_neg hn1, if_pos k1]
    rw [hac] at lX lX2
    rw [hap]
    simp only [hvFld, bindO, lX, List.getElem?_cons_succ, List.getElem?_cons_zero]
    refine Join.of (fun xs t => t = u.set m (.map .string (nmF fid (without l a.a)) (without l a.a).length) ∧ xs = [.ptr (fid a.f) 0]) ?_ ?_
    · rintro _ t ⟨rfl, rfl⟩
      simp only [List.headD_cons, hvFld, bindO, lX2, List.getElem?_cons_succ, List.getElem?_cons_zero, seq _ (okne _ k4), hcond]
      refine hset _ _ _ _ _ (set_at _ _ _) (srt_without hs _) ⟨trivial, _, hle, ?_⟩
      rw [set_set]
    · intro K5 hK5
      simp only [hvFld, bindO, lX, List.getElem?_cons_succ, List.getElem?_cons_zero, seq _ (okne _ k3), hcond, lookN hm1, k2]
      exact hdel _ _ _ _ hm1 hs (hK5 _ _ ⟨rfl, rfl⟩)
  · have hn1 : ¬ a.kind = 1 := by omega
    have hn2 : ¬ a.kind = 2 := by omega
    have hac : acP fid a = [strV a.a, strV [], nilP] := by unfold acP; rw [if_neg hn1, if_neg hn2]
    have hap : applyA l a = without l a.a := by unfold applyA; rw [if_neg hn1, if_neg hn2]
    rw [hac] at lX lX2
    rw [hap]
    simp only [hvFld, bindO, lX, List.getElem?_cons_succ, List.getElem?_cons_zero]
    refine Join.of (fun xs t => t = u.set m (.map .string (nmF fid (without l a.a)) (without l a.a).length)) ?_ ?_
    · rintro _ t rfl
      simp only [hvFld, bindO, lX2, List.getElem?_cons_succ, List.getElem?_cons_zero, seq0, hcond]
      exact ⟨trivial, _, hle, rfl⟩
    · intro K5 hK5
      simp only [hvFld, bindO, lX, List.getElem?_cons_succ, List.getElem?_cons_zero, seq _ (okne _ k3), hcond, lookN hm1]
      exact hdel _ _ _ _ hm1 hs (hK5 _ _ rfl)
end
end Go.Proofs.Ythfoanmokcepcaa.DS
end
section
namespace Go.Proofs.Ythfoanmokcepcaa.DS
open Go.Proofs.Ythfoanmokcepcaa.H Go.Proofs.Ythfoanmokcepcaa.AS Go.Proofs.Ythfoanmokcepcaa.X0
set_option linter.unusedVariables false
set_option linter.unusedSimpArgs false
set_option maxRecDepth 100000
section
variable {s h : HS} {d K : Nat} {D : DK} {tag : Nat → Nat} {mn ms : Nat} {A : HV} {fid : Nat → Nat} {B : Nat → HV}
open Classical in
/-- All but the files has turned. -/
theorem PD.re (hP : PD h d D tag mn ms A fid B) {h3 : HS} {D3 : DK} {mn3 ms3 : Nat} {A3 : HV} (hat : h3 d = some (.cells (dC D3 mn3 ms3 A3))) (hnow : h3 mn3 = some (.map .string (nmF fid D3.now) D3.now.length)) (hsafe : h3 ms3 = some (.map .string (nmF fid D3.safe) D3.safe.length))
    (hne : mn3 ≠ ms3) (hacts : ORow h3 3 A3 D3.acts.length (rows (acP fid) D3.acts)) (hf : D3.files = D.files) (keep : ∀ k ob, h k = some ob → tag k ≠ 0 → h3 k = some ob)
    (n1 : h mn3 = none ∨ tag mn3 = 0) (n2 : h ms3 = none ∨ tag ms3 = 0) (n3 : ∀ q, accId A3 = some q → (h q = none ∨ tag q = 0) ∧ q ≠ d) : ∃ tag', PD h3 d D3 tag' mn3 ms3 A3 fid B := by
  refine ⟨fun k => if h k = none then 0 else tag k, hat, hnow, hsafe, hne, hacts, ⟨?_, ?_, ?_⟩, fun q hq => ?_, fun i hi => ?_, fun i hi => ?_⟩
  · show (if h d = none then 0 else tag d) = 0
    rw [hP.td.1]; split <;> rfl
  · show (if h mn3 = none then 0 else tag mn3) = 0
    split
    · rfl
    · rename_i hh; exact n1.resolve_left hh
  · show (if h ms3 = none then 0 else tag ms3) = 0
    split
    · rfl
    · rename_i hh; exact n2.resolve_left hh
  · refine ⟨?_, (n3 q hq).2⟩
    show (if h q = none then 0 else tag q) = 0
    split
    · rfl
    · rename_i hh; exact (n3 q hq).1.resolve_left hh
  · rw [hf] at hi ⊢
    obtain ⟨f1, f2⟩ := hP.file i hi
    obtain ⟨t1, t2⟩ := hP.ti i hi
    exact ⟨keep _ _ f1 (by omega), f2.keep fun q ob hq hob => keep _ _ hob (by have := (t2 q hq).1; omega)⟩
  · rw [hf] at hi
    obtain ⟨f1, f2⟩ := hP.file i hi
    obtain ⟨t1, t2⟩ := hP.ti i hi
    refine ⟨?_, fun q hq => ⟨?_, (t2 q hq).2⟩⟩
    · show (if h (fid i) = none then 0 else tag (fid i)) = i + 1
      rw [if_neg (by rw [f1]; exact Option.some_ne_none _)]
      exact t1
    · obtain ⟨ob, hob⟩ := f2.own hq
      show (if h q = none then 0 else tag q) = i + 1
      rw [if_neg (by rw [hob]; exact Option.some_ne_none _)]
      exact (t2 q hq).1
open Classical in
/-- One file has turned. -/
theorem PD.reF (hP : PD h d D tag mn ms A fid B) {h3 : HS} {i : Nat} (hi : i < D.files.length) {f : Fl} {Bi : HV} (keep : ∀ k ob, h k = some ob → tag k ≠ i + 1 → h3 k = some ob) (hfi : h3 (fid i) = some (.cells [Bi, .lit (.int .i64 f.safe)])) (hB : FRow h3 Bi f.b)
    (hBi : ∀ q, accId Bi = some q → (h q = none ∨ tag q = i + 1) ∧ q ≠ fid i) : ∃ tag' B', PD h3 d (D.setF i f) tag' mn ms A fid B' := by
  have hlen : (D.setF i f).files.length = D.files.length := setF_len D i f
  have hget : ∀ j, (D.setF i f).files.getD j fl0 = if j = i then f else D.files.getD j fl0 := fun j => by
    show (D.files.set i f).getD j fl0 = _
    rw [List.getD, List.getElem?_set]
    by_cases e : i = j
    · subst e; rw [if_pos rfl, if_pos hi, if_pos rfl]; rfl
    · rw [if_neg e, if_neg (Ne.symm e)]; rfl
  refine ⟨fun k => if h k = none then i + 1 else tag k, fun j => if j = i then Bi else B j, keep _ _ hP.at_ (by have := hP.td.1; omega), keep _ _ hP.now (by have := hP.td.2.1; omega), keep _ _ hP.safe (by have := hP.td.2.2; omega), hP.ne, hP.acts.keep fun q ob hq hob => keep _ _ hob (by have := (hP.ta q hq).1; omega), ⟨?_, ?_, ?_⟩, fun q hq => ?_, fun j hj => ?_, fun j hj => ?_⟩
  · show (if h d = none then i + 1 else tag d) = 0
    rw [if_neg (by rw [hP.at_]; exact Option.some_ne_none _)]; exact hP.td.1
  · show (if h mn = none then i + 1 else tag mn) = 0
    rw [if_neg (by rw [hP.now]; exact Option.some_ne_none _)]; exact hP.td.2.1
  · show (if h ms = none then i + 1 else tag ms) = 0
    rw [if_neg (by rw [hP.safe]; exact Option.some_ne_none _)]; exact hP.td.2.2
  · refine ⟨?_, (hP.ta q hq).2⟩
    show (if h q = none then i + 1 else tag q) = 0
    rw [if_neg (by rw [hP.acts.own hq]; exact Option.some_ne_none _)]; exact (hP.ta q hq).1
  · rw [hlen] at hj
    rw [hget]
    by_cases e : j = i
    · subst e
      simp only [if_true]
      exact ⟨hfi, hB⟩
    · simp only [e, if_false]
      obtain ⟨f1, f2⟩ := hP.file j hj
      obtain ⟨t1, t2⟩ := hP.ti j hj
      exact ⟨keep _ _ f1 (by omega), f2.keep fun q ob hq hob => keep _ _ hob (by have := (t2 q hq).1; omega)⟩
  · rw [hlen] at hj
    obtain ⟨f1, f2⟩ := hP.file j hj
    obtain ⟨t1, t2⟩ := hP.ti j hj
    refine ⟨?_, fun q hq => ?_⟩
    · show (if h (fid j) = none then i + 1 else tag (fid j)) = j + 1
      rw [if_neg (by rw [f1]; exact Option.some_ne_none _)]; exact t1
    · by_cases e : j = i
      · subst e
        simp only [if_true] at hq
        refine ⟨?_, (hBi q hq).2⟩
        show (if h q = none then j + 1 else tag q) = j + 1
        split
        · rfl
        · rename_i hh; exact (hBi q hq).1.resolve_left hh
      · simp only [e, if_false] at hq
        obtain ⟨ob, hob⟩ := f2.own hq
        refine ⟨?_, (t2 q hq).2⟩
        show (if h q = none then i + 1 else tag q) = j + 1
        rw [if_neg (by rw [hob]; exact Option.some_ne_none _)]
        exact (t2 q hq).1
theorem val_f {n : Nat} : ∀ {ac : List AC} {l : List Nm}, Val n l ac → ∀ a ∈ ac, a.kind = 1 → a.f < n
  | [], _, _, a, ha, _ => by cases ha
  | b :: ac, l, ⟨h1, h2⟩, a, ha, hk => by
    rcases List.mem_cons.1 ha with rfl | ha
    · rcases h1 with ⟨-, h, -⟩ | ⟨h, -⟩ | ⟨h, -⟩
      · exact h
      · omega
      · omega
    · exact val_f h2 a ha hk
open Classical in
/-- A new file. -/
theorem PD.newF (hP : PD h d D tag mn ms A fid B) (sn : Srt D.now) (ss : Srt D.safe) (nn : ∀ x ∈ D.now, x.2 < D.files.length) (ns : ∀ x ∈ D.safe, x.2 < D.files.length) (hv : ∀ a ∈ D.acts, a.kind = 1 → a.f < D.files.length) {F : Nat} (hF : h F = none) : ∃ tag' B' fid', fid' D.files.length = F ∧ PD (h.set F (.cells [nilV, .lit (.int .i64 0)])) d { D with files := D.files ++ [fl0] } tag' mn ms A fid' B' ∧ (∀ i, i < D.files.length → fid' i = fid i) := by
  have hlt : ∀ i, i < D.files.length → (fun i => if i = D.files.length then F else fid i) i = fid i := fun i hi => if_neg (by omega)
  have hkeep : ∀ k ob, h k = some ob → (h.set F (.cells [nilV, .lit (.int .i64 0)])) k = some ob := fun k ob hk => by rw [set_ne _ _ (fun e => by rw [e, hF] at hk; cases hk)]; exact hk
  have hget : ∀ j, j < D.files.length → (D.files ++ [fl0]).getD j fl0 = D.files.getD j fl0 := fun j hj => by
    rw [List.getD, List.getElem?_append_left hj]; rfl
  have hgetn : (D.files ++ [fl0]).getD D.files.length fl0 = fl0 := by
    rw [List.getD, List.getElem?_append_right (Nat.le_refl _), Nat.sub_self]; rfl
  have hacr : rows (acP fun i => if i = D.files.length then F else fid i) D.acts = rows (acP fid) D.acts := by
    have : ∀ l : List AC, (∀ a ∈ l, a.kind = 1 → a.f < D.files.length) → rows (acP fun i => if i = D.files.length then F else fid i) l = rows (acP fid) l := by
      intro l
      induction l with
      | nil => intro _; rfl
      | cons a l ih =>
        intro hl
        rw [rows_cons, rows_cons, ih fun b hb => hl b (List.mem_cons_of_mem _ hb)]
        congr 1
        unfold acP
        split
        · rename_i hk
          have := hl a List.mem_cons_self hk
          show [_, _, HV.ptr (if a.f = D.files.length then F else fid a.f) 0] = _
          rw [if_neg (by omega)]
        · rfl
    exact this _ hv
  refine ⟨fun k => if h k = none then D.files.length + 1 else tag k, fun j => if j = D.files.length then nilV else B j, fun i => if i = D.files.length then F else fid i, if_pos rfl, ⟨hkeep _ _ hP.at_, ?_, ?_, hP.ne, ?_, ⟨?_, ?_, ?_⟩, fun q hq => ?_, fun j hj => ?_, fun j hj => ?_⟩, hlt⟩
  · rw [hkeep _ _ hP.now]
    show _ = some (HObj.map .string (nmF _ D.now) D.now.length)
    rw [nmF_congr (fid := fid) (fid' := fun i => if i = D.files.length then F else fid i) (fun x hx => hlt _ (nn x hx)) sn]
  · rw [hkeep _ _ hP.safe]
    show _ = some (HObj.map .string (nmF _ D.safe) D.safe.length)
    rw [nmF_congr (fid := fid) (fid' := fun i => if i = D.files.length then F else fid i) (fun x hx => hlt _ (ns x hx)) ss]
  · show ORow _ 3 A D.acts.length (rows (acP _) D.acts)
    rw [hacr]
    exact hP.acts.keep fun q ob _ hob => hkeep _ _ hob
  · show (if h d = none then _ else tag d) = 0
    rw [if_neg (by rw [hP.at_]; exact Option.some_ne_none _)]; exact hP.td.1
  · show (if h mn = none then _ else tag mn) = 0
    rw [if_neg (by rw [hP.now]; exact Option.some_ne_none _)]; exact hP.td.2.1
  · show (if h ms = none then _ else tag ms) = 0
    rw [if_neg (by rw [hP.safe]; exact Option.some_ne_none _)]; exact hP.td.2.2
  · refine ⟨?_, (hP.ta q hq).2⟩
    show (if h q = none then _ else tag q) = 0
    rw [if_neg (by rw [hP.acts.own hq]; exact Option.some_ne_none _)]; exact (hP.ta q hq).1
  · have hj' : j < (D.files ++ [fl0]).length := hj
    rw [List.length_append, List.length_singleton] at hj'
    show _ = some (HObj.cells [_, .lit (.int .i64 ((D.files ++ [fl0]).getD j fl0).safe)]) ∧ FRow _ _ ((D.files ++ [fl0]).getD j fl0).b
    by_cases e : j = D.files.length
    · subst e
      rw [hgetn]
      simp only [if_true]
      exact ⟨set_at _ _ _, .inl ⟨rfl, rfl⟩⟩
    · have hj2 : j < D.files.length := by omega
      rw [hget j hj2]
      simp only [e, if_false]
      obtain ⟨f1, f2⟩ := hP.file j hj2
      exact ⟨hkeep _ _ f1, f2.keep fun q ob _ hob => hkeep _ _ hob⟩
  · have hj' : j < (D.files ++ [fl0]).length := hj
    rw [List.length_append, List.length_singleton] at hj'
    by_cases e : j = D.files.length
    · subst e
      simp only [if_true, hF]
      exact ⟨trivial, fun q hq => by cases hq⟩
    · have hj2 : j < D.files.length := by omega
      simp only [e, if_false]
      obtain ⟨f1, f2⟩ := hP.file j hj2
      obtain ⟨t1, t2⟩ := hP.ti j hj2
      refine ⟨?_, fun q hq => ?_⟩
      · rw [if_neg (by rw [f1]; exact Option.some_ne_none _)]; exact t1
      · obtain ⟨ob, hob⟩ := f2.own hq
        rw [if_neg (by rw [hob]; exact Option.some_ne_none _)]; exact t2 q hq
theorem PD.nd (hP : PD h d D tag mn ms A fid B) : mn ≠ d ∧ ms ≠ d := by
  refine ⟨fun e => ?_, fun e => ?_⟩
  · have := hP.now; rw [e, hP.at_] at this; cases this
  · have := hP.safe; rw [e, hP.at_] at this; cases this
theorem PD.nA (hP : PD h d D tag mn ms A fid B) {q : Nat} (hq : accId A = some q) : q ≠ d ∧ q ≠ mn ∧ q ≠ ms := by
  have ho := hP.acts.own hq
  refine ⟨(hP.ta q hq).2, fun e => ?_, fun e => ?_⟩
  · rw [e, hP.now] at ho; cases ho
  · rw [e, hP.safe] at ho; cases ho
theorem name35 (hP : PD h d D tag mn ms A fid B) (hl : HS.le h s) (hs : Srt D.now) {a : AC} {nf : Nat} (ha : ValA nf D.now a) (hn : D.acts.length ≤ 1000000) :
    HC Try.prog 35 [.ptr d 0, .agg (acP fid a)] s (fun v t => v = .tup [] ∧ ∃ A' tag' h', PD h' d (D.name a) tag' mn ms A' fid B ∧ Turn s h t h') := by
  refine HC35 ?_
  unfold c35
  refine boxI (hc_agg _) fun X hX => ?_
  have hle := le_set_new (.cells (acP fid a)) (le_refl' s) hX
  have hsX : (s.set X (.cells (acP fid a))) X = some (.cells (acP fid a)) := set_at _ _ _
  generalize s.set X (.cells (acP fid a)) = s1 at *
  have hl1 := HS.le.trans hl hle
  have ld1 := fun k => hP.ld hl1 k
  simp only [hvNil, hvFld, bindO, ld1, dC, List.getElem?_cons_succ, List.getElem?_cons_zero, load_all (acP_len fid a) hsX]
  refine (does39 (hl1 _ _ hP.now) hs ha).mono ?_
  rintro _ t ⟨rfl, u, hu, rfl⟩
  have hT1 : Turn s h (u.set mn (.map .string (nmF fid (applyA D.now a)) (applyA D.now a).length)) (h.set mn (.map .string (nmF fid (applyA D.now a)) (applyA D.now a).length)) := (Turn.junk hl (HS.le.trans hle hu)).trans (Turn.set (HS.le.trans hl (HS.le.trans hle hu)) hP.now _)
  have hXmn : X ≠ mn := fun e => by have := hl1 _ _ hP.now; rw [← e, hsX] at this; cases this
  have htX : (u.set mn (.map .string (nmF fid (applyA D.now a)) (applyA D.now a).length)) X = some (.cells (acP fid a)) := by rw [set_ne _ _ hXmn]; exact hu _ _ hsX
  obtain ⟨g1, g2⟩ := hP.nd
  have h1d : (h.set mn (.map .string (nmF fid (applyA D.now a)) (applyA D.now a).length)) d = some (.cells (dC D mn ms A)) := by rw [set_ne _ _ (Ne.symm g1)]; exact hP.at_
  have h1m : (h.set mn (.map .string (nmF fid (applyA D.now a)) (applyA D.now a).length)) mn = some (.map .string (nmF fid (applyA D.now a)) (applyA D.now a).length) := set_at _ _ _
  have h1k : ∀ k, k ≠ mn → (h.set mn (.map .string (nmF fid (applyA D.now a)) (applyA D.now a).length)) k = h k := fun k hk => set_ne _ _ hk
  generalize u.set mn _ = t1 at hT1 htX ⊢
  generalize h.set mn _ = h1 at hT1 h1d h1m h1k
  have ld2 : ∀ k, vLoad t1 (.ptr d k) 1 false = (dC D mn ms A)[k]? := fun k => load_cell k 1 (hT1.1 _ _ h1d)
  simp only [hvNil, hvFld, ld2, dC, List.getElem?_cons_succ, List.getElem?_cons_zero, load_all (acP_len fid a) htX]
  refine hBS_lit (vs := acP fid a) rfl (acP_len fid a) rfl fun Z hZ => ?_
  have hle3 := le_set_new (.cells (acP fid a)) (le_refl' t1) hZ
  have hZl : lcells (t1.set Z (.cells (acP fid a))) 3 (.view Z 0 3 1 true) = some (acP fid a) := lit_cells (set_at _ _ _) (acP_len fid a)
  have hT2 : Turn s h (t1.set Z (.cells (acP fid a))) h1 := hT1.trans (Turn.junk hT1.1 hle3)
  have ld3 : ∀ k, vLoad (t1.set Z (.cells (acP fid a))) (.ptr d k) 1 false = (dC D mn ms A)[k]? := fun k => load_cell k 1 (hT2.1 _ _ h1d)
  refine ⟨by rw [ld3]; rfl, ?_⟩
  generalize t1.set Z (.cells (acP fid a)) = t2 at *
  have hA1 : ORow h1 3 A D.acts.length (rows (acP fid) D.acts) := hP.acts.keep fun q ob hq hob => by rw [h1k q (hP.nA hq).2.1]; exact hob
  refine hA1.app hT2.1 hZl (k := 1) rfl (by omega) (acP_len fid a) ⟨by omega, by omega⟩ ⟨by omega, by omega⟩ fun A' t3 h3 k1 k2 k3 k4 => ?_
  have hA'd : ∀ q, accId A' = some q → h1 q = none := fun q hq => none_of_le hT2.1 (k4 q hq)
  have h3d : h3 d = some (.cells (dC D mn ms A)) := k3 _ _ (fun e => (hP.nA e).1 rfl) h1d
  refine store1 (k2.1 _ _ h3d) (by simp [dC]) k1.hc k1.one rfl ?_
  have hdc : (dC D mn ms A).set 3 A' = dC (D.name a) mn ms A' := rfl
  rw [hdc]
  have hT4 : Turn s h (t3.set d (.cells (dC (D.name a) mn ms A'))) (h3.set d (.cells (dC (D.name a) mn ms A'))) := (hT2.trans k2).trans (Turn.set k2.1 h3d _)
  have hdq : ∀ q, accId A' = some q → q ≠ d := fun q hq e => by have := hA'd q hq; rw [e, h1d] at this; cases this
  obtain ⟨tag', hfin⟩ := hP.re (h3 := h3.set d (.cells (dC (D.name a) mn ms A'))) (D3 := D.name a) (mn3 := mn) (ms3 := ms) (A3 := A') (set_at _ _ _)
    (by rw [set_ne _ _ g1]; exact k3 _ _ (fun e => (hP.nA e).2.1 rfl) h1m)
    (by rw [set_ne _ _ g2]; exact k3 _ _ (fun e => (hP.nA e).2.2 rfl) (by rw [h1k _ (Ne.symm hP.ne)]; exact hP.safe)) hP.ne
    (by
      have := k1.keep (h' := h3.set d (.cells (dC (D.name a) mn ms A'))) fun q ob hq hob => by rw [set_ne _ _ (hdq q hq)]; exact hob
      rw [← rows_one (acP fid) a, ← rows_app] at this
      have e : (D.name a).acts = D.acts ++ [a] := rfl
      rw [e, List.length_append]
      exact this) rfl
    (fun k ob hk ht => by
      have e1 : k ≠ d := fun e => ht (by rw [e]; exact hP.td.1)
      have e2 : k ≠ mn := fun e => ht (by rw [e]; exact hP.td.2.1)
      rw [set_ne _ _ e1]
      exact k3 _ _ (fun e => ht (hP.ta k e).1) (by rw [h1k k e2]; exact hk))
    (.inr hP.td.2.1) (.inr hP.td.2.2) (fun q hq => ⟨by
      by_cases e : q = mn
      · exact .inr (by rw [e]; exact hP.td.2.1)
      · exact .inl (by rw [← h1k q e]; exact hA'd q hq), hdq q hq⟩)
  exact ⟨trivial, A', tag', _, hfin, hT4⟩
/-- The weight of a name's file. -/
def wtN (D : DK) : Value → Int := fun k => match k with
  | .string x => (match look D.now x.data.toList with | some i => ((D.files.getD i fl0).b.length : Int) | none => 0)
  | _ => 0
theorem wtN_at (D : DK) (n : By) : wtN D (encS n) = match look D.now n with | some i => ((D.files.getD i fl0).b.length : Int) | none => 0 := by simp [wtN, encS]
theorem used_sum (hw : Wf K D) {es : List (Value × HV × Nat)} (hr : Reads (nmF fid D.now) D.now.length es) : (es.map fun e => wtN D e.1).sum = D.used := by
  have h1 : (es.map fun e => wtN D e.1) = (es.map fun e => e.1).map (wtN D) := by rw [List.map_map]; rfl
  have h2 : (D.now.map fun x => ((D.files.getD x.2 fl0).b.length : Int)) = (D.now.map fun x => encS x.1).map (wtN D) := by
    rw [List.map_map]
    refine List.map_congr_left fun x hx => ?_
    show _ = wtN D (encS x.1)
    rw [wtN_at, (look_mem hw.sn).2 (show (x.1, x.2) ∈ D.now from hx)]
  unfold DK.used
  rw [h1, h2]
  refine sum_same _ hr.keys ?_ fun k => ⟨fun hk => ?_, fun hk => ?_⟩
  · unfold List.Nodup
    rw [List.pairwise_map]
    exact hw.sn.imp fun h e => bl_ne h (encS_inj e)
  · obtain ⟨e, he, rfl⟩ := List.mem_map.1 hk
    obtain ⟨n, i, e1, e2, -⟩ := nmF_str (hr.get e he)
    exact List.mem_map.2 ⟨(n, i), (look_mem hw.sn).1 e2, e1.symm⟩
  · obtain ⟨x, hx, rfl⟩ := List.mem_map.1 hk
    have : nmF fid D.now (encS x.1) = some (.ptr (fid x.2) 0) := by rw [nmF_at, (look_mem hw.sn).2 (show (x.1, x.2) ∈ D.now from hx)]; rfl
    obtain ⟨b, hb⟩ := hr.all _ _ this
    exact List.mem_map.2 ⟨_, hb, rfl⟩
theorem used_bd (hw : Wf K D) : 0 ≤ D.used ∧ D.used ≤ (D.now.length : Int) * K := by
  unfold DK.used
  have : ∀ l : List Nm, (∀ x ∈ l, x.2 < D.files.length) → 0 ≤ (l.map fun x => ((D.files.getD x.2 fl0).b.length : Int)).sum ∧ (l.map fun x => ((D.files.getD x.2 fl0).b.length : Int)).sum ≤ (l.length : Int) * K := by
    intro l
    induction l with
    | nil => intro _; exact ⟨Int.le_refl 0, by simp⟩
    | cons x l ih =>
      intro hl
      obtain ⟨i1, i2⟩ := ih fun y hy => hl y (List.mem_cons_of_mem _ hy)
      have hx := (hw.at_ (hl x List.mem_cons_self)).1
      rw [List.map_cons, List.sum_cons, List.length_cons]
      have : ((l.length + 1 : Nat) : Int) * (K : Int) = (l.length : Int) * K + K := by rw [Int.natCast_add, Int.add_mul]; simp
      rw [this]
      omega
  exact this _ hw.nn
theorem met_bd (hw : Wf K D) {es : List (Value × HV × Nat)} (hr : Reads (nmF fid D.now) D.now.length es) (seen : List Nat) : 0 ≤ metS es (wtN D) seen ∧ metS es (wtN D) seen ≤ 1000000000000 := by
  unfold metS
  have : ∀ l : List (Value × HV × Nat), (∀ e ∈ l, e ∈ es) → 0 ≤ (l.map fun e => wtN D e.1).sum ∧ (l.map fun e => wtN D e.1).sum ≤ (l.length : Int) * 1000000 := by
    intro l
    induction l with
    | nil => intro _; exact ⟨Int.le_refl 0, by simp⟩
    | cons x l ih =>
      intro hl
      obtain ⟨i1, i2⟩ := ih fun y hy => hl y (List.mem_cons_of_mem _ hy)
      obtain ⟨n, i, e1, e2, -⟩ := nmF_str (hr.get x (hl x List.mem_cons_self))
      have hx := (hw.at_ (hw.look e2)).1
      have hk := hw.k
      have : wtN D x.1 = ((D.files.getD i fl0).b.length : Int) := by rw [e1, wtN_at, e2]
      rw [List.map_cons, List.sum_cons, List.length_cons, this]
      omega
  obtain ⟨h1, h2⟩ := this (es.filter fun e => seen.contains e.2.2) fun e he => (List.mem_filter.1 he).1
  have h3 := List.length_filter_le (fun e : Value × HV × Nat => seen.contains e.2.2) es
  have h4 := hr.len
  have h5 := hw.nw
  have h6 := hw.k
  exact ⟨h1, by omega⟩
theorem used21 (hP : PD h d D tag mn ms A fid B) (hl : HS.le h s) (hw : Wf K D) : HC Try.prog 21 [.ptr d 0] s (fun v t => v = .lit (.int .i64 D.used) ∧ HS.le s t) := by
  refine HC.up (HC21 ?_)
  unfold c21
  have ld1 := fun k => hP.ld hl k
  simp only [eqp27, bindO, hcond, hvNil, hvFld, ld1, dC, List.getElem?_cons_succ, List.getElem?_cons_zero]
  have hm := hl _ _ hP.now
  unfold hRangeM
  simp only [hm]
  intro es cl it hr hit hne
  have hfn : ∀ i, i < D.files.length → fid i ≠ mn := fun i hi e => by
    have := (hP.ti i hi).1
    rw [e, hP.td.2.1] at this
    omega
  refine HLoop.ghost (σ := List Nat) (fun seen => [.lit (.int .i64 (metS es (wtN D) seen))]) (fun seen t => t = ((s.set mn (.mapx .string es cl)).set it (.iter mn cl seen))) (fun seen => leftN es seen) [] (by rw [metS_nil]) rfl ?_
  rintro seen t K' rfl hK
  have e1 : ((s.set mn (.mapx .string es cl)).set it (.iter mn cl seen)) it = some (.iter mn cl seen) := set_at _ _ _
  have e2 : ((s.set mn (.mapx .string es cl)).set it (.iter mn cl seen)) mn = some (.mapx .string es cl) := by rw [set_ne _ _ (Ne.symm hne)]; exact set_at _ _ _
  unfold hNext
  simp only [e1, e2, List.headD_cons]
  refine ⟨trivial, fun hall => ?_, fun e he hs => ?_⟩
  · simp only [vExtract, List.getElem?_cons_zero]
    rw [metS_all _ hall, used_sum hw hr]
    refine ⟨_, _, UpL.close _ e2 hr, rfl, fun k ob hk => ?_⟩
    by_cases e : k = mn
    · subst e; rw [hm] at hk; cases hk; exact set_at _ _ _
    · rw [set_ne _ _ e, set_ne _ _ (ne_new hk hit), set_ne _ _ e]
      exact hk
  · obtain ⟨n, i, g1, g2, g3⟩ := nmF_str (hr.get e he)
    have hi := hw.look g2
    obtain ⟨f1, f2⟩ := hP.file i hi
    have hb := met_bd hw hr seen
    have hb2 := met_bd hw hr (seen ++ [e.2.2])
    have hfi : (((s.set mn (.mapx .string es cl)).set it (.iter mn cl seen)).set it (.iter mn cl (seen ++ [e.2.2]))) (fid i) = some (.cells [B i, .lit (.int .i64 (D.files.getD i fl0).safe)]) := by
      have := hl _ _ f1
      rw [set_ne _ _ (ne_new this hit), set_ne _ _ (ne_new this hit), set_ne _ _ (hfn i hi)]
      exact this
    have hen : vEntry (((s.set mn (.mapx .string es cl)).set it (.iter mn cl seen)).set it (.iter mn cl (seen ++ [e.2.2]))) (.ptr it 0) = some (.tup [.lit e.1, e.2.1]) := by
      unfold vEntry
      have e3 : (((s.set mn (.mapx .string es cl)).set it (.iter mn cl seen)).set it (.iter mn cl (seen ++ [e.2.2]))) mn = some (.mapx .string es cl) := by rw [set_ne _ _ (Ne.symm hne)]; exact e2
      simp only [set_at, e3, if_true, List.getLast?_append, List.getLast?_singleton, Option.some_or, Option.bind_some]
      have : es.find? (fun x => x.2.2 == e.2.2) = some e := by
        have hx := List.find?_isSome.2 (show ∃ x, x ∈ es ∧ (x.2.2 == e.2.2) = true from ⟨e, he, by simp⟩)
        obtain ⟨y, hy⟩ := Option.isSome_iff_exists.1 hx
        have y1 := List.find?_some hy
        have y2 := List.mem_of_find?_eq_some hy
        simp only [beq_iff_eq] at y1
        rw [hy]
        obtain ⟨a, ha, rfl⟩ := List.mem_iff_getElem.1 y2
        obtain ⟨b, hb, rfl⟩ := List.mem_iff_getElem.1 he
        have hn := hr.born
        unfold List.Nodup at hn
        rw [List.pairwise_map, List.pairwise_iff_getElem] at hn
        rcases Nat.lt_trichotomy a b with h' | rfl | h'
        · exact absurd y1 (hn a b ha hb h')
        · rfl
        · exact absurd y1.symm (hn b a hb ha h')
      rw [this]
      rfl
    have hwt : wtN D e.1 = ((D.files.getD i fl0).b.length : Int) := by rw [g1, wtN_at, g2]
    have hsn := metS_snoc (wtN D) hr.born he hs
    rw [hwt] at hsn
    rw [hsn] at hb2
    simp only [vExtract, List.getElem?_cons_zero, List.getElem?_cons_succ, hen, g3, hvNil, hvFld, load_cell 0 1 hfi]
    rw [show vLenT (Try.prog.underlying 22) (((s.set mn (.mapx .string es cl)).set it (.iter mn cl seen)).set it (.iter mn cl (seen ++ [e.2.2]))) (B i) = some (.lit (.int .i64 (D.files.getD i fl0).b.length)) from f2.len _ _]
    simp only
    rw [add_n (by omega) (by omega)]
    simp only
    refine hK (seen ++ [e.2.2]) _ _ (by rw [hsn]) (by rw [set_set]) (leftN_lt he hs)
end
end Go.Proofs.Ythfoanmokcepcaa.DS
end
section
namespace Go.Proofs.Ythfoanmokcepcaa.X1
end Go.Proofs.Ythfoanmokcepcaa.X1
end
section
namespace Go.Proofs.Ythfoanmokcepcaa.DS
open Go.Proofs.Ythfoanmokcepcaa.H Go.Proofs.Ythfoanmokcepcaa.AS Go.Proofs.Ythfoanmokcepcaa.X0
set_option linter.unusedVariables false
set_option linter.unusedSimpArgs false
set_option maxRecDepth 100000
def emp0 : HS := fun _ => none
theorem ld_at {t : HS} {p : Nat} {cs : List HV} (hp : t p = some (.cells cs)) (k : Nat) : vLoad t (.ptr p k) 1 false = cs[k]? := load_cell k 1 hp
section
variable {s h : HS} {d K : Nat} {D : DK} {tag : Nat → Nat} {mn ms : Nat} {A : HV} {fid : Nat → Nat} {B : Nat → HV}
theorem new12 {room : Int} (s : HS) : HC Try.prog 12 [.lit (.int .i64 room)] s (fun v t => if 0 ≤ room ∧ room ≤ 1099511627776 then ∃ d h', v = .tup [.ptr d 0, .lit (.int .i64 0)] ∧ PS h' d (DK.new room) ∧ HS.le h' t ∧ HS.le s t ∧ ∀ k ob, s k = some ob → h' k = none else t = s ∧ v = .tup [nilP, .lit (.int .i64 1)]) := by
  refine HC12 ?_
  unfold c12
  refine Join.of (fun xs t => t = s ∧ xs = [.lit (.bool (decide (¬ (0 ≤ room ∧ room ≤ 1099511627776))))]) ?_ ?_
  · rintro _ t ⟨rfl, rfl⟩
    simp only [List.headD_cons]
    by_cases hr : 0 ≤ room ∧ room ≤ 1099511627776
    · rw [if_pos hr]
      simp only [hr, and_self, not_true, decide_false, hcond, bindO]
      intro mn hmn m2 hm2
      have e0 : mn ≠ m2 := fun e => by rw [← e, set_at] at hm2; cases hm2
      have hm2' : t m2 = none := by rw [set_ne _ _ (Ne.symm e0)] at hm2; exact hm2
      rw [show vMk [(0, 1), (1, 1), (2, 1), (3, 1), (4, 1), (5, 1), (6, 1), (7, 1)] [.lit (.int .i64 0), .lit (.map none), .lit (.map none), .lit (.slice none 0 0), .lit (.bool false), .lit (.bool false), .lit (.int .i64 0), .lit (.int .i64 0)] [(0, .lit (.int .i64 room)), (1, .map mn), (2, .map m2)] = some (.agg (dC (DK.new room) mn m2 nilV)) from rfl]
      simp only
      refine boxI (hc_agg _) fun d hd => ?_
      have e1 : d ≠ m2 := fun e => by rw [e, set_at] at hd; cases hd
      have e2 : d ≠ mn := fun e => by rw [e, set_ne _ _ e0, set_at] at hd; cases hd
      have hd' : t d = none := by rw [set_ne _ _ e1, set_ne _ _ e2] at hd; exact hd
      have hmap : (HObj.map .string (fun _ => none) 0) = .map .string (nmF (fun _ => 0) []) 0 := by
        congr 1
        funext k
        cases k <;> rfl
      refine ⟨d, ((emp0.set mn (.map .string (fun _ => none) 0)).set m2 (.map .string (fun _ => none) 0)).set d (.cells (dC (DK.new room) mn m2 nilV)), rfl, ?_, ?_, ?_, ?_⟩
      · refine ⟨fun _ => 0, mn, m2, nilV, fun _ => 0, fun _ => nilV, set_at _ _ _, ?_, ?_, e0, .inl ⟨rfl, rfl, rfl⟩, ⟨rfl, rfl, rfl⟩, (fun q hq => by cases hq), fun i hi => absurd hi (Nat.not_lt_zero _), fun i hi => absurd hi (Nat.not_lt_zero _)⟩
        · rw [set_ne _ _ (Ne.symm e2), set_ne _ _ e0, set_at, hmap]
          rfl
        · rw [set_ne _ _ (Ne.symm e1), set_at, hmap]
          rfl
      · exact le_set (le_set (le_set (fun k o hk => by cases hk) _ _) _ _) _ _
      · exact HS.le.trans (le_set_new _ (le_refl' t) hmn) (HS.le.trans (le_set_new _ (le_refl' _) hm2) (le_set_new _ (le_refl' _) hd))
      · intro k ob hk
        rw [set_ne _ _ (ne_new hk hd'), set_ne _ _ (ne_new hk hm2'), set_ne _ _ (ne_new hk hmn)]
        rfl
    · rw [if_neg hr]
      simp only [hr, not_false_iff, decide_true, hcond]
      exact ⟨trivial, rfl⟩
  · intro K1 hK1
    simp only [lss_n, gtr_n, bindO]
    by_cases h1 : room < 0
    · simp only [h1, decide_true, hcond]
      exact hK1 _ _ ⟨rfl, by rw [decide_eq_true (by omega)]⟩
    · simp only [h1, decide_false, hcond]
      exact hK1 _ _ ⟨rfl, by rw [show decide (1099511627776 < room) = decide (¬ (0 ≤ room ∧ room ≤ 1099511627776)) from by rw [decide_eq_decide]; omega]⟩
/-- What an act leaves behind. -/
def Did2 (s h t : HS) (d : Nat) (r : DK × Int) (v : HV) : Prop := v = .lit (.int .i64 r.2) ∧ ∃ h', PS h' d r.1 ∧ Turn s h t h'
theorem PD.ask (hP : PD h d D tag mn ms A fid B) : PD (h.set d (.cells (dC D.ask mn ms A))) d D.ask tag mn ms A fid B := hP.put D.ask (ask_same D).1 (ask_same D).2.1 (ask_same D).2.2.1 (ask_same D).2.2.2.1
theorem PD.ps (hP : PD h d D tag mn ms A fid B) : PS h d D := ⟨_, _, _, _, _, _, hP⟩
theorem sync14 (hP : PS h d D) (hl : HS.le h s) (hw : Wf K D) (n : By) : HC Try.prog 14 [.ptr d 0, strV n] s (fun v t => Did2 s h t d (D.sync n) v) := by
  obtain ⟨tag, mn, ms, A, fid, B, hP⟩ := hP
  refine HC14 ?_
  unfold c14
  refine (has36 hP hl hw n (.inl ⟨rfl, rfl⟩) (by simp)).mono ?_
  rintro _ t ⟨rfl, hT⟩
  rw [List.nil_append]
  have hP' := hP.ask
  generalize h.set d (.cells (dC D.ask mn ms A)) = h1 at hT hP'
  unfold hasV DK.sync Did2
  by_cases he : D.err [n] = 0
  · simp only [he, ne_eq, not_true, if_false]
    cases hk : look D.now n with
    | none =>
      simp only [vExtract, List.getElem?_cons_succ, List.getElem?_cons_zero, bindO, eql28, hcond]
      refine Join.of (fun _ u => u = t) ?_ ?_
      · rintro _ u rfl
        exact ⟨by trivial, h1, hP'.ps, hT⟩
      · intro K5 hK5
        exact hK5 _ _ rfl
    | some i =>
      have hi := hw.look hk
      obtain ⟨e1, e2, e3, e4, e5, e6⟩ := ask_same D
      obtain ⟨f1, f2⟩ := hP'.file i (by rw [e4]; exact hi)
      obtain ⟨t1, t2⟩ := hP'.ti i (by rw [e4]; exact hi)
      rw [e4] at f1 f2
      have hf := hT.1 _ _ f1
      simp only [vExtract, List.getElem?_cons_succ, List.getElem?_cons_zero, bindO, eql28, decide_true, hcond, hvNil, hvFld, ld_at hf]
      refine Join.of (fun _ u => u = t.set (fid i) (.cells [B i, .lit (.int .i64 ((D.files.getD i fl0).b.length : Nat))])) ?_ ?_
      · rintro _ u rfl
        obtain ⟨tag', B', hfin⟩ := hP'.reF (h3 := h1.set (fid i) (.cells [B i, .lit (.int .i64 ((D.files.getD i fl0).b.length : Nat))])) (i := i) (by rw [e4]; exact hi) (f := ⟨(D.files.getD i fl0).b, (D.files.getD i fl0).b.length⟩) (Bi := B i)
          (fun k ob hk2 ht => by rw [set_ne _ _ (fun e => ht (by rw [e]; exact t1))]; exact hk2) (set_at _ _ _) (f2.keep fun q ob hq hob => by rw [set_ne _ _ (t2 q hq).2]; exact hob) (fun q hq => ⟨.inr (t2 q hq).1, (t2 q hq).2⟩)
        exact ⟨by trivial, _, hfin.ps, hT.trans (Turn.set hT.1 f1 _)⟩
      · intro K5 hK5
        rw [show vLenT (Try.prog.underlying 22) t (B i) = some (.lit (.int .i64 (D.files.getD i fl0).b.length)) from f2.len _ _]
        simp only
        refine store1 hf (by simp) (hc_int _ _) (ho_int _ _) rfl ?_
        exact hK5 _ _ rfl
  · simp only [he, ne_eq, not_false_iff, if_true, vExtract, List.getElem?_cons_succ, List.getElem?_cons_zero, bindO, eql28, decide_false, hcond]
    refine Join.of (fun _ u => u = t) ?_ ?_
    · rintro _ u rfl
      exact ⟨by trivial, h1, hP'.ps, hT⟩
    · intro K5 hK5
      exact hK5 _ _ rfl
/-- Bytes that are handed in, or read. -/
def BRow (h s : HS) (x : HV) (b : List Int) : Prop := (∃ f, x = .list 1 b.length (bl b) f) ∨ (x = nilV ∧ b = []) ∨ ∃ X f, x = .view X 0 1 b.length f ∧ s X = some (.cells (bl b)) ∧ h X = none
theorem BRow.turn {t h' : HS} {x : HV} {b : List Int} (hx : BRow h s x b) (hT : Turn s h t h') : BRow h' t x b := by
  rcases hx with hx | hx | ⟨X, f, h1, h2, h3⟩
  · exact .inl hx
  · exact .inr (.inl hx)
  · obtain ⟨k1, k2⟩ := hT.2 X _ h3 h2
    exact .inr (.inr ⟨X, f, h1, k1, k2⟩)
theorem BRow.len {x : HV} {b : List Int} (hx : BRow h s x b) (e : Nat) (u : HS) : vLenT (some (.slice e)) u x = some (.lit (.int .i64 b.length)) := by
  rcases hx with ⟨f, rfl⟩ | ⟨rfl, rfl⟩ | ⟨X, f, rfl, -⟩ <;> rfl
theorem BRow.llen {x : HV} {b : List Int} (hx : BRow h s x b) : H.llen x = b.length := by
  rcases hx with ⟨f, rfl⟩ | ⟨rfl, rfl⟩ | ⟨X, f, rfl, -⟩ <;> rfl
theorem BRow.cells {x : HV} {b : List Int} (hx : BRow h s x b) : lcells s 1 x = some (bl b) := by
  rcases hx with ⟨f, rfl⟩ | ⟨rfl, rfl⟩ | ⟨X, f, rfl, hX, -⟩
  · simp [lcells]
  · rfl
  · simp [lcells, hX, bl_len, List.take_of_length_le]
end
end Go.Proofs.Ythfoanmokcepcaa.DS
end
section
namespace Go.Proofs.Ythfoanmokcepcaa.DS
open Go.Proofs.Ythfoanmokcepcaa.H Go.Proofs.Ythfoanmokcepcaa.AS Go.Proofs.Ythfoanmokcepcaa.X0
set_option linter.unusedVariables false
set_option linter.unusedSimpArgs false
set_option maxRecDepth 100000
section
variable {s h : HS} {d K : Nat} {D : DK} {tag : Nat → Nat} {mn ms : Nat} {A : HV} {fid : Nat → Nat} {B : Nat → HV}
/-- Bytes behind a file's. -/
theorem appT (hP : PD h d D tag mn ms A fid B) (hl : HS.le h s) {i : Nat} (hi : i < D.files.length) {x : HV} {b : List Int} (hx : BRow h s x b) (hb : (D.files.getD i fl0).b.length ≤ 1000000) (hb2 : b.length ≤ 1000000) {Kk : HS → Prop}
    (hK : ∀ t h', PS h' d (D.setF i ⟨(D.files.getD i fl0).b ++ b, (D.files.getD i fl0).safe⟩) → Turn s h t h' → Kk t) : hAppend s 1 1 (B i) x (fun x30 s31 => hStore s31 (.ptr (fid i) 0) x30 1 Kk) := by
  obtain ⟨f1, f2⟩ := hP.file i hi
  obtain ⟨t1, t2⟩ := hP.ti i hi
  refine f2.app hl hx.cells hx.llen ⟨by omega, by omega⟩ ⟨by omega, by omega⟩ fun B' s1 h1 k1 k2 k3 k4 => ?_
  have g1 : h1 (fid i) = some (.cells [B i, .lit (.int .i64 (D.files.getD i fl0).safe)]) := k3 _ _ (fun e => (t2 _ e).2 rfl) f1
  have nB' : ∀ q, accId B' = some q → (h q = none ∨ tag q = i + 1) ∧ q ≠ fid i := fun q hq => by
    rcases k4 q hq with e | e
    · exact ⟨.inr (t2 q e).1, (t2 q e).2⟩
    · exact ⟨.inl (none_of_le hl e), fun e' => by have := hl _ _ f1; rw [← e', e] at this; cases this⟩
  refine store1 (k2.1 _ _ g1) (by simp) k1.hc k1.one rfl ?_
  obtain ⟨tag', B2, hfin⟩ := hP.reF (h3 := h1.set (fid i) (.cells [B', .lit (.int .i64 (D.files.getD i fl0).safe)])) hi (f := ⟨(D.files.getD i fl0).b ++ b, (D.files.getD i fl0).safe⟩) (Bi := B')
    (fun k ob hk ht => by
      rw [set_ne _ _ (fun e => ht (by rw [e]; exact t1))]
      exact k3 _ _ (fun e => ht (t2 k e).1) hk) (set_at _ _ _) (k1.keep fun q ob hq hob => by rw [set_ne _ _ (nB' q hq).2]; exact hob) nB'
  exact hK _ _ hfin.ps (k2.trans (Turn.set k2.1 g1 _))
theorem append13 (hP : PS h d D) (hl : HS.le h s) (hw : Wf K D) (hc : Ch D) (n : By) {x : HV} {b : List Int} (hx : BRow h s x b) (hb2 : b.length ≤ 1000000) (hk9 : K + 2 ≤ 1000000) :
    HC Try.prog 13 [.ptr d 0, strV n, x] s (fun v t => Did2 s h t d (D.append n b) v) := by
  obtain ⟨tag, mn, ms, A, fid, B, hP⟩ := hP
  refine HC13 ?_
  unfold c13
  refine hBS_lit (vs := strC n) rfl rfl rfl fun X hX => ?_
  have hle1 := le_set_new (.cells (strC n)) (le_refl' s) hX
  have hXs : (s.set X (.cells (strC n))) X = some (.cells (rows strC [n])) := set_at _ _ _
  have hT1 : Turn s h (s.set X (.cells (strC n))) h := Turn.junk hl hle1
  generalize s.set X (.cells (strC n)) = s1 at *
  refine (asked34 hP hT1.1 hw (ns := [n]) (.inr ⟨X, _, rfl, hXs, none_of_le hl hX⟩) (by simp)).mono ?_
  rintro _ t ⟨rfl, ht⟩
  have hT : Turn s h t (h.set d (.cells (dC D.ask mn ms A))) := by rw [ht]; exact hT1.trans (Turn.set hT1.1 hP.at_ _)
  clear ht hXs hT1 hle1
  have hP' := hP.ask
  have hw' := hw.ask (by omega)
  have hc' := hc.ask
  generalize h.set d (.cells (dC D.ask mn ms A)) = h1 at hT hP'
  obtain ⟨e1, e2, e3, e4, e5, e6⟩ := ask_same D
  have hus : D.ask.used = D.used := by unfold DK.used; rw [e1, e4]
  have hx1 := hx.turn hT
  have hbu := used_bd hw
  have hbu2 : (D.now.length : Int) * K ≤ 1000000 * 1000000 := by
    have h1 := hw.nw; have h2 := hw.k
    exact Int.mul_le_mul (by omega) (by omega) (by omega) (by omega)
  have hroom := hw.room
  unfold DK.append Did2
  simp only [bindO, neq28]
  by_cases he : D.err [n] = 0
  · simp only [he, decide_true, Bool.not_true, hcond, ne_eq, not_true, if_false]
    rw [show vLenT (Try.prog.underlying 22) t x = some (.lit (.int .i64 b.length)) from hx1.len _ _]
    have ld1 := fun k => hP'.ld hT.1 k
    simp only [hvNil, hvFld, ld1, dC, List.getElem?_cons_succ, List.getElem?_cons_zero]
    refine (used21 hP' hT.1 hw').mono ?_
    rintro _ t2 ⟨rfl, hle2⟩
    have hT2 := hT.trans (Turn.junk hT.1 hle2)
    have hx2 := hx.turn hT2
    have ld2 := fun k => hP'.ld hT2.1 k
    clear hT hle2
    rw [show vLenT (Try.prog.underlying 22) t2 x = some (.lit (.int .i64 b.length)) from hx2.len _ _]
    simp only [ld2, dC, List.getElem?_cons_succ, List.getElem?_cons_zero, true_and, hus]
    rw [show vBin .sub (.lit (.int .i64 D.ask.room)) (.lit (.int .i64 D.used)) = some (.lit (.int .i64 (D.room - D.used))) from by rw [e5]; exact sub_n (by omega) (by omega)]
    simp only [gtr_n]
    by_cases hfull : D.room - D.used < (b.length : Int)
    · simp only [hfull, decide_true, if_true]
      exact ⟨by trivial, h1, hP'.ps, hT2⟩
    · simp only [hfull, decide_false, if_false]
      have hm := hT2.1 _ _ hP'.now
      rw [e1] at hm
      simp only [hvNil, hvFld, ld2, dC, List.getElem?_cons_succ, List.getElem?_cons_zero, lookN hm]
      cases hk : look D.now n with
      | some i =>
        have hi := hw.look hk
        have hi' : i < D.ask.files.length := by rw [e4]; exact hi
        have hbi := (hw.at_ hi).1
        have hkk := hw.k
        refine Join.of (fun xs u => u = t2 ∧ xs = [.ptr (fid i) 0]) ?_ ?_
        · rintro _ u ⟨rfl, rfl⟩
          obtain ⟨f1, f2⟩ := hP'.file i hi'
          simp only [List.headD_cons, hvNil, hvFld, ld_at (hT2.1 _ _ f1), List.getElem?_cons_zero]
          refine appT hP' hT2.1 hi' hx2 (by rw [e4]; omega) hb2 fun t3 h3 k1 k2 => ?_
          rw [e4] at k1
          exact ⟨by trivial, h3, k1, hT2.trans k2⟩
        · intro K18 hK18
          simp only [eqp77]
          exact hK18 _ _ ⟨rfl, rfl⟩
      | none =>
        refine Join.of (fun xs u => ∃ F tag3 A3 B3 fid3 h3, xs = [.ptr F 0] ∧ fid3 D.files.length = F ∧ PD h3 d ({ D.ask with files := D.files ++ [fl0] }.name ⟨1, n, [], D.files.length⟩) tag3 mn ms A3 fid3 B3 ∧ Turn s h u h3) ?_ ?_
        · rintro _ u ⟨F, tag3, A3, B3, fid3, h3, rfl, rfl, k1, k2⟩
          have hi3 : D.files.length < ({ D.ask with files := D.files ++ [fl0] }.name ⟨1, n, [], D.files.length⟩ : DK).files.length := by show D.files.length < (D.files ++ [fl0]).length; simp
          have hgetn : ({ D.ask with files := D.files ++ [fl0] }.name ⟨1, n, [], D.files.length⟩ : DK).files.getD D.files.length fl0 = fl0 := by
            show (D.files ++ [fl0]).getD D.files.length fl0 = fl0
            rw [List.getD, List.getElem?_append_right (Nat.le_refl _), Nat.sub_self]; rfl
          obtain ⟨f1, f2⟩ := k1.file _ hi3
          simp only [List.headD_cons, hvNil, hvFld, ld_at (k2.1 _ _ f1), List.getElem?_cons_zero]
          refine appT k1 k2.1 hi3 (hx.turn k2) (by rw [hgetn]; decide) hb2 fun t4 h4 q1 q2 => ?_
          rw [hgetn] at q1
          exact ⟨by trivial, h4, q1, k2.trans q2⟩
        · intro K18 hK18
          simp only [nilP, eqn77]
          refine boxI (hc_agg _) fun F hF => ?_
          have hF1 : h1 F = none := none_of_le hT2.1 hF
          obtain ⟨tag3, B3, fid3, g1, g2, g3⟩ := hP'.newF hw'.sn hw'.ss hw'.nn hw'.ns (val_f hc'.val) hF1
          rw [e4] at g1 g2
          have hT3 := hT2.trans (Turn.new hT2.1 hF (.cells [nilV, .lit (.int .i64 0)]))
          rw [show vMk [(0, 1), (1, 1), (2, 1)] [.lit (.string .empty), .lit (.string .empty), .lit (.pointer none)] [(1, strV n), (2, .ptr F 0)] = some (.agg (acP fid3 ⟨1, n, [], D.files.length⟩)) from by rw [show acP fid3 ⟨1, n, [], D.files.length⟩ = [strV [], strV n, .ptr (fid3 D.files.length) 0] from rfl, g1]; rfl]
          simp only
          have hok : okN n = true := by simpa using (err_all he).2
          refine (name35 g2 hT3.1 (by show Srt D.ask.now; rw [e1]; exact hw.sn) (nf := D.files.length + 1) (.inl ⟨rfl, Nat.lt_succ_self _, hok⟩) (by show D.ask.acts.length ≤ _; rw [e3]; have := hw.na; have := hw.k; omega)).mono ?_
          rintro _ u ⟨rfl, A4, tag4, h4, q1, q2⟩
          exact hK18 _ _ ⟨F, tag4, A4, B3, fid3, h4, rfl, g1, q1, hT3.trans q2⟩
  · simp only [he, decide_false, Bool.not_false, hcond, ne_eq, not_false_iff, if_true]
    exact ⟨by trivial, h1, hP'.ps, hT⟩
end
end Go.Proofs.Ythfoanmokcepcaa.DS
end
section
namespace Go.Proofs
open Go.Shelf
def Try.keys63_ren : Go.Shelf.Ren := ⟨fun | 7 => 41 | 10 => 60 | n => n, fun | 23 => 72 | 26 => 9 | 3 => 77 | 28 => 91 | 0 => 0 | 27 => 90 | 33 => 109 | 4 => 4 | n => n, fun | n => n⟩
theorem Try.keys63 : Go.Proofs.SlLaysZ.n7 Try.prog Try.keys63_ren := {
  mixed := by kernel_rfl
  f7 := ⟨Try.f41.name, by decide, Try.func41.trans (congrArg some (by kernel_rfl))⟩
  f10 := ⟨Try.f60.name, by decide, Try.func60.trans (congrArg some (by kernel_rfl))⟩
  t0 := Try.underlying0
  a0 := Try.isAgg0
  z0 := Try.sizeOf0
  v0 := Try.zeroValue0
  t4 := Try.underlying4
  a4 := Try.isAgg4
  z4 := Try.sizeOf4
  v4 := Try.zeroValue4
  t23 := Try.underlying72
  a23 := Try.isAgg72
  z23 := Try.sizeOf72
  v23 := Try.zeroValue72
  t26 := Try.underlying9
  a26 := Try.isAgg9
  z26 := Try.sizeOf9
  v26 := Try.zeroValue9
  t27 := Try.underlying90
  a27 := Try.isAgg90
  z27 := Try.sizeOf90
  v27 := Try.zeroValue90
  t28 := Try.underlying91
  a28 := Try.isAgg91
  z28 := Try.sizeOf91
  v28 := Try.zeroValue91
  t33 := Try.underlying109
  a33 := Try.isAgg109
  z33 := Try.sizeOf109
  v33 := Try.zeroValue109 }
def Try.sorted62_ren : Go.Shelf.Ren := ⟨fun | 6 => 40 | 8 => 58 | 9 => 59 | 11 => 67 | 13 => 69 | 12 => 68 | 23 => 79 | 24 => 80 | 14 => 70 | 15 => 71 | 16 => 72 | 17 => 73 | 18 => 74 | 19 => 75 | 20 => 76 | 21 => 77 | 22 => 78 | 25 => 81 | 26 => 82 | 27 => 83 | 28 => 84 | 29 => 85 | 30 => 86 | 31 => 87 | n => n, fun | 26 => 9 | 28 => 91 | 24 => 41 | 0 => 0 | 3 => 3 | 37 => 121 | 48 => 132 | 50 => 134 | 4 => 4 | 40 => 124 | 39 => 123 | 45 => 129 | 5 => 5 | 9 => 9 | 51 => 135 | 55 => 139 | 57 => 141 | 58 => 56 | 33 => 109 | n => n, fun | n => n⟩
theorem Try.sorted62 : Go.Proofs.SlLaysZ.n6 Try.prog Try.sorted62_ren := {
  mixed := by kernel_rfl
  f6 := ⟨Try.f40.name, by decide, Try.func40.trans (congrArg some (by kernel_rfl))⟩
  f8 := ⟨Try.f58.name, by decide, Try.func58.trans (congrArg some (by kernel_rfl))⟩
  f11 := ⟨Try.f67.name, by decide, Try.func67.trans (congrArg some (by kernel_rfl))⟩
  t0 := Try.underlying0
  a0 := Try.isAgg0
  z0 := Try.sizeOf0
  v0 := Try.zeroValue0
  t24 := Try.underlying41
  a24 := Try.isAgg41
  z24 := Try.sizeOf41
  v24 := Try.zeroValue41
  t26 := Try.underlying9
  a26 := Try.isAgg9
  z26 := Try.sizeOf9
  v26 := Try.zeroValue9
  t28 := Try.underlying91
  a28 := Try.isAgg91
  z28 := Try.sizeOf91
  v28 := Try.zeroValue91
  i26 := by kernel_rfl }
def Try.sort74_ren : Go.Shelf.Ren := ⟨fun | 6 => 59 | 8 => 69 | 9 => 68 | 19 => 79 | 20 => 80 | 21 => 70 | 22 => 71 | 23 => 72 | 24 => 73 | 25 => 74 | 26 => 75 | 27 => 76 | 28 => 77 | 29 => 78 | 36 => 81 | 31 => 82 | 32 => 83 | 37 => 84 | 38 => 85 | 39 => 86 | 41 => 87 | n => n, fun | 27 => 41 | 29 => 9 | 3 => 3 | 32 => 121 | 26 => 41 | 0 => 0 | 44 => 132 | 46 => 134 | 4 => 4 | 36 => 124 | 35 => 123 | 41 => 129 | 5 => 5 | 9 => 9 | 53 => 135 | 57 => 139 | 63 => 141 | 64 => 56 | n => n, fun | n => n⟩
theorem Try.sort74 : Go.Proofs.SlLaysM.n6 Try.prog Try.sort74_ren := {
  mixed := by kernel_rfl
  f6 := ⟨Try.f59.name, by decide, Try.func59.trans (congrArg some (by kernel_rfl))⟩
  f8 := Try.func69.trans (congrArg some (by kernel_rfl))
  f9 := ⟨Try.f68.name, by decide, Try.func68.trans (congrArg some (by kernel_rfl))⟩
  f19 := Try.func79.trans (congrArg some (by kernel_rfl))
  f20 := Try.func80.trans (congrArg some (by kernel_rfl))
  f21 := ⟨Try.f70.name, by decide, Try.func70.trans (congrArg some (by kernel_rfl))⟩
  f22 := ⟨Try.f71.name, by decide, Try.func71.trans (congrArg some (by kernel_rfl))⟩
  f23 := ⟨Try.f72.name, by decide, Try.func72.trans (congrArg some (by kernel_rfl))⟩
  f24 := ⟨Try.f73.name, by decide, Try.func73.trans (congrArg some (by kernel_rfl))⟩
  f25 := ⟨Try.f74.name, by decide, Try.func74.trans (congrArg some (by kernel_rfl))⟩
  f26 := ⟨Try.f75.name, by decide, Try.func75.trans (congrArg some (by kernel_rfl))⟩
  f27 := ⟨Try.f76.name, by decide, Try.func76.trans (congrArg some (by kernel_rfl))⟩
  f28 := ⟨Try.f77.name, by decide, Try.func77.trans (congrArg some (by kernel_rfl))⟩
  f29 := ⟨Try.f78.name, by decide, Try.func78.trans (congrArg some (by kernel_rfl))⟩
  f31 := Try.func82.trans (congrArg some (by kernel_rfl))
  f32 := Try.func83.trans (congrArg some (by kernel_rfl))
  f36 := ⟨Try.f81.name, by decide, Try.func81.trans (congrArg some (by kernel_rfl))⟩
  f37 := ⟨Try.f84.name, by decide, Try.func84.trans (congrArg some (by kernel_rfl))⟩
  f38 := ⟨Try.f85.name, by decide, Try.func85.trans (congrArg some (by kernel_rfl))⟩
  f39 := ⟨Try.f86.name, by decide, Try.func86.trans (congrArg some (by kernel_rfl))⟩
  f41 := ⟨Try.f87.name, by decide, Try.func87.trans (congrArg some (by kernel_rfl))⟩
  t0 := Try.underlying0
  a0 := Try.isAgg0
  z0 := Try.sizeOf0
  v0 := Try.zeroValue0
  t3 := Try.underlying3
  a3 := Try.isAgg3
  z3 := Try.sizeOf3
  v3 := Try.zeroValue3
  t4 := Try.underlying4
  a4 := Try.isAgg4
  z4 := Try.sizeOf4
  v4 := Try.zeroValue4
  t5 := Try.underlying5
  a5 := Try.isAgg5
  z5 := Try.sizeOf5
  v5 := Try.zeroValue5
  t9 := Try.underlying9
  a9 := Try.isAgg9
  z9 := Try.sizeOf9
  v9 := Try.zeroValue9
  t26 := Try.underlying41
  a26 := Try.isAgg41
  z26 := Try.sizeOf41
  v26 := Try.zeroValue41
  t27 := Try.underlying41
  a27 := Try.isAgg41
  z27 := Try.sizeOf41
  v27 := Try.zeroValue41
  t29 := Try.underlying9
  a29 := Try.isAgg9
  z29 := Try.sizeOf9
  v29 := Try.zeroValue9
  t32 := Try.underlying121
  a32 := Try.isAgg121
  z32 := Try.sizeOf121
  v32 := Try.zeroValue121
  t35 := Try.underlying123
  a35 := Try.isAgg123
  z35 := Try.sizeOf123
  v35 := Try.zeroValue123
  t36 := Try.underlying124
  a36 := Try.isAgg124
  z36 := Try.sizeOf124
  v36 := Try.zeroValue124
  t41 := Try.underlying129
  a41 := Try.isAgg129
  z41 := Try.sizeOf129
  v41 := Try.zeroValue129
  t44 := Try.underlying132
  a44 := Try.isAgg132
  z44 := Try.sizeOf132
  v44 := Try.zeroValue132
  t46 := Try.underlying134
  a46 := Try.isAgg134
  z46 := Try.sizeOf134
  v46 := Try.zeroValue134
  t53 := Try.underlying135
  a53 := Try.isAgg135
  z53 := Try.sizeOf135
  v53 := Try.zeroValue135
  t57 := Try.underlying139
  a57 := Try.isAgg139
  z57 := Try.sizeOf139
  v57 := Try.zeroValue139
  t63 := Try.underlying141
  a63 := Try.isAgg141
  z63 := Try.sizeOf141
  v63 := Try.zeroValue141
  t64 := Try.underlying56
  a64 := Try.isAgg56
  z64 := Try.sizeOf56
  v64 := Try.zeroValue56 }
def Try.clone37_ren : Go.Shelf.Ren := ⟨fun | 5 => 37 | 7 => 57 | n => n, fun | 23 => 72 | 25 => 9 | 3 => 77 | 4 => 4 | 20 => 20 | n => n, fun | n => n⟩
theorem Try.clone37 : Go.Proofs.SlLaysW.n5 Try.prog Try.clone37_ren := {
  mixed := by kernel_rfl
  f5 := ⟨Try.f37.name, by decide, Try.func37.trans (congrArg some (by kernel_rfl))⟩
  f7 := Try.func57.trans (congrArg some (by kernel_rfl))
  t4 := Try.underlying4
  a4 := Try.isAgg4
  z4 := Try.sizeOf4
  v4 := Try.zeroValue4
  t20 := Try.underlying20
  a20 := Try.isAgg20
  z20 := Try.sizeOf20
  v20 := Try.zeroValue20
  t23 := Try.underlying72
  a23 := Try.isAgg72
  z23 := Try.sizeOf72
  v23 := Try.zeroValue72 }
end Go.Proofs
end
section
namespace Go.Proofs.Ythfoanmokcepcaa.CL
open Go.RowKit Go.Maps Go.Sort Go.Shelf Go.MapKept Go.Proofs.Ythfoanmokcepcaa.H
set_option linter.unusedVariables false
set_option linter.unusedSimpArgs false
set_option maxRecDepth 100000
variable {s : HS}
theorem sorts62 (m : Nat) : AnyZ.SortsIn Try.prog Try.sorted62_ren Fence.wide m :=
  ⟨fun blk off cap ss W hH hblk hsz => callsIn_wide.2 (AnyM.slices_Sort_string Try.sort74 blk off cap ss W hH hblk hsz),
   fun p cap W => callsIn_wide.2 (AnyM.slices_Sort_string_none Try.sort74 p cap W)⟩
set_option maxHeartbeats 1000000 in
theorem sorted62_in {H : Type} (Bm b nn : Nat) (D0 : DataW H) (R : Value → Option (DataW H × List MemPlace)) (w : World) (hm : w.cell? ⟨Bm, 0, none⟩ = some (.map (some b))) (hown : w.ownsMap Try.prog 9 R b nn D0) (hmax : Maps.size D0 ≤ maxLen) (hbytes : Maps.size D0 * 16 ≤ 140737488355328) :
    CallsIn Fence.wide 5 Try.prog 40 #[.func (.func 60) #[] #[.pointer (some ⟨Bm, 0, none⟩)]] w fun e w' => ∃ (v : Value) (ss : List (List UInt8)), e = .returned v ∧ ss.Perm (strKeys D0) ∧
      w'.ownsRow w.heap.size 9 1 v ss.length ((ss.mergeSort (fun x y => decide (x ≤ y))).map encStr) ∧ (v = .slice none 0 0 ↔ ss = []) ∧ Below w.heap.size w w' := by
  have hseq : SeqGives Fence.wide 2 Try.prog 60 #[.pointer (some ⟨Bm, 0, none⟩)] encStr (fun ss => ss.Perm (strKeys D0)) (Maps.size D0) w :=
    AnyZ.keys_gives (ρ := Try.keys63_ren) { Try.keys63 with } Fence.wide _ trivial rfl (by omega) Bm b nn D0 _ (cell_lt hm) hm hown
  exact AnyZ.sorted_in Try.sorted62 Fence.wide 5 trivial trivial trivial trivial rfl (by omega) (sorts62 _) (enters_of Try.func59 (by kernel_rfl) rfl) 60 #[.pointer (some ⟨Bm, 0, none⟩)] trivial (enters_of Try.func60 (by kernel_rfl) rfl) _ _ hmax hbytes _ hseq
theorem rel_grown {m : M} {w w' : World} (h : Rel m s w) (hb : Below w.heap.size w w') : Rel m s w' := by
  refine ⟨⟨hb.os.trans h.below.os, hb.tape.trans h.below.tape, hb.output.trans h.below.output, fun k hk => ⟨Nat.lt_of_lt_of_le (h.below.block k hk).1 hb.size, (hb.block k (h.below.block k hk).1).trans (h.below.block k hk).2⟩⟩, ?_, ?_, h.own, h.inj, h.fin⟩
  · intro b o v hc
    have := h.com b o v hc
    exact (cell_block (hb.block b (cell_lt this))).trans this
  · intro id ob l hi hl
    have := h.objs id ob l hi hl
    exact this.of_block (hb.block _ this.lt)
def strsV (ks : List (List UInt8)) : HV := if ks = [] then nilV else .list 1 ks.length (ks.map fun x => .lit (encStr x)) false
theorem keys63 (mid : Nat) : HC Try.prog 41 [.map mid] s (fun v s' => ∃ q, s q = none ∧ v = .func (.func 60) [.ptr q 0] ∧ s' = s.set q (.root [.map mid])) := by
  intro m w cargs hR hn ha
  have h0 := ha 0 _ rfl
  obtain ⟨a0, rfl⟩ : ∃ a0, cargs = #[a0] := by
    match cargs, hn with
    | ⟨[a]⟩, _ => exact ⟨a, rfl⟩
  have h0' : Rep m (.map mid) a0 := h0
  cases h0' with
  | map _ l hl =>
  refine (callsIn_wide.1 (AnyZ.keys_in Try.keys63 Fence.wide 5 trivial rfl (some l.b) w)).mono ?_
  rintro e w' ⟨rfl, rfl⟩
  obtain ⟨N, hN1, hN2, hN3, hnew⟩ := hR.new (.cells #[.map (some l.b)] _) 1
  have hne : N ≠ mid := by rintro rfl; rw [hN2] at hl; cases hl
  obtain ⟨g1, g2⟩ := hnew (.root [.map mid]) ⟨rfl, _, _, _, World.alloc_heap_new w _, by simp, fun j x hj => by
    cases j with
    | zero =>
      simp at hj; subst hj
      exact .map mid l (by simp only [if_neg (Ne.symm hne)]; exact hl)
    | succ j => simp at hj⟩
  refine ⟨_, _, _, _, rfl, g1, g2, Rep.func _ _ _ rfl (fun j x hj => ?_), N, hN1, rfl, rfl⟩
  cases j with
  | zero =>
    simp at hj; subst hj
    exact Rep.ptr N 0 ⟨w.heap.size, 0, 1⟩ (if_pos rfl)
  | succ j => simp at hj
theorem strKeys_mem {es : List (Lit × DataW Unit)} {x : List UInt8} : x ∈ strKeys (.map es) ↔ ∃ p ∈ es, strOf p.1 = x := by simp [strKeys]
theorem sorted62 {q mid n : Nat} {f : Value → Option HV} (hq : s q = some (.root [.map mid])) (hm : s mid = some (.map .string f n)) (hk : ∀ k x, f k = some x → ∃ b : ByteArray, k = .string b ∧ b.size ≤ 140737488355328) (hn : n * 16 ≤ 140737488355328) :
    HC Try.prog 40 [.func (.func 60) [.ptr q 0]] s (fun v s' => ∃ ks : List (List UInt8), ks.Pairwise (fun x y => x ≤ y) ∧ ks.Nodup ∧ (∀ x, x ∈ ks ↔ (f (encStr x)).isSome = true) ∧ ks.length = n ∧ v = strsV ks ∧ s' = s) := by
  intro m w cargs hR hna ha
  have h0 := ha 0 _ rfl
  obtain ⟨a0, rfl⟩ : ∃ a0, cargs = #[a0] := by
    match cargs, hna with
    | ⟨[a]⟩, _ => exact ⟨a, rfl⟩
  have h0' : Rep m (.func (.func 60) [.ptr q 0]) a0 := h0
  cases h0' with
  | func _ _ vs hs hr =>
  obtain ⟨p0, rfl⟩ : ∃ p0, vs = #[p0] := by
    match vs, hs with
    | ⟨[a]⟩, _ => exact ⟨a, rfl⟩
  have hp : Rep m (.ptr q 0) p0 := hr 0 _ rfl
  cases hp with
  | ptr _ _ l hl =>
  obtain ⟨hb0, c, ct, cf, hc1, hc2, hc3⟩ := hR.objs q _ l hq hl
  have hmp : Rep m (.map mid) (c.getD 0 undef) := hc3 0 _ rfl
  have hcell : w.cell? ⟨l.b, 0, none⟩ = some (c.getD 0 undef) := by
    simp only [World.cell?, hc1]
    have : 0 < c.size := hc2
    simp [Array.getD, this]
  generalize c.getD 0 undef = cm at hmp hcell
  cases hmp with
  | map _ l2 hl2 =>
  obtain ⟨es, clock, hh, hes, hst, hik, hf1, hf2⟩ := hR.objs mid _ l2 hm hl2
  have hkey : ∀ e ∈ es.toList, ∃ b : ByteArray, e.key = .string b ∧ b.size ≤ 140737488355328 := fun e he => by
    obtain ⟨x, hx⟩ := Option.isSome_iff_exists.1 (hf2 e he)
    exact hk _ _ hx
  have hrd : ∀ e ∈ es.toList, ∀ b : ByteArray, e.key = .string b → WideElems.rd (H := Unit) Try.prog 9 (fun _ => some (.nil, [])) e = some (.string b.data.toList, .nil) := fun e he b hb => by
    obtain ⟨b', h1, h2⟩ := hkey e he
    rw [hb] at h1
    cases h1
    simp only [WideElems.rd, keyOf, Try.underlying9, mapKey, hb]
    rw [if_pos (by unfold maxLen; omega)]
    rfl
  obtain ⟨D0, hD0⟩ : ∃ D0 : List (Lit × DataW Unit), D0 = (es.toList.map (WideElems.rg Try.prog 9 fun _ => some (.nil, []))).foldr DataW.insert [] := ⟨_, rfl⟩
  have hown : w.ownsMap Try.prog 9 (fun _ => some ((.nil : DataW Unit), [])) l2.b es.size (.map D0) := by
    refine ⟨es, clock, hh, ⟨by unfold maxLen; omega, hst, fun e he => ?_⟩, Nat.le_refl _, by rw [hD0]⟩
    obtain ⟨b, h1, -⟩ := hkey e he
    exact ⟨_, hrd e he b h1⟩
  have hsz : Maps.size (.map D0 : DataW Unit) = n := by
    rw [Maps.size_eq, hD0, length_sorted, List.length_map]
    simpa using hes
  have hmem : ∀ x, x ∈ strKeys (.map D0 : DataW Unit) ↔ (f (encStr x)).isSome = true := fun x => by
    rw [strKeys_mem, hD0]
    constructor
    · rintro ⟨p, hp, rfl⟩
      rw [mem_sorted] at hp
      obtain ⟨e, he, rfl⟩ := List.mem_map.1 hp
      obtain ⟨b, h1, -⟩ := hkey e he
      rw [WideElems.rg_of (hrd e he b h1)]
      have := hf2 e he
      rw [h1] at this
      simpa [strOf, encStr] using this
    · intro hx
      obtain ⟨y, hy⟩ := Option.isSome_iff_exists.1 hx
      obtain ⟨e, he, h1, -⟩ := hf1 _ _ hy
      refine ⟨WideElems.rg Try.prog 9 (fun _ => some (.nil, [])) e, mem_sorted.2 (List.mem_map.2 ⟨e, he, rfl⟩), ?_⟩
      rw [WideElems.rg_of (hrd e he ⟨x.toArray⟩ (by rw [h1]))]
      simp [strOf]
  have hb0' : l.base + 0 = 0 := by rw [hb0]
  rw [hb0']
  refine (callsIn_wide.1 (sorted62_in l.b l2.b es.size _ _ w hcell hown (by rw [hsz]; unfold maxLen; omega) (by rw [hsz]; exact hn))).mono ?_
  rintro e w' ⟨v, ss, rfl, hperm, hrow, hnil, hbel⟩
  have hnd : (strKeys (.map D0 : DataW Unit)).Nodup := by
    obtain ⟨es', e1, e2, -⟩ := hown.entries (string_keyed Try.underlying9)
    cases e1
    have hst : ∀ p ∈ D0, ∃ x, p.1 = .string x := fun p hp => by
      rw [hD0] at hp
      obtain ⟨e, he, rfl⟩ := List.mem_map.1 (mem_sorted.1 hp)
      obtain ⟨b, h1, -⟩ := hkey e he
      rw [WideElems.rg_of (hrd e he b h1)]
      exact ⟨_, rfl⟩
    unfold strKeys List.Nodup
    rw [List.pairwise_map]
    refine List.Pairwise.imp_of_mem ?_ e2
    intro p r hp hr hne he
    obtain ⟨x, hx⟩ := hst p hp
    obtain ⟨y, hy⟩ := hst r hr
    rw [hx, hy] at he hne
    simp only [strOf] at he
    rw [he] at hne
    exact hne rfl
  obtain ⟨ks, hks⟩ : ∃ ks, ks = ss.mergeSort (fun x y => decide (x ≤ y)) := ⟨_, rfl⟩
  rw [← hks] at hrow
  have hperm2 : ks.Perm ss := by rw [hks]; exact List.mergeSort_perm ss _
  have hlen : ks.length = n := by
    rw [(hperm2.trans hperm).length_eq]
    have := hsz
    rw [Maps.size_eq] at this
    simpa [strKeys] using this
  have hsorted : ks.Pairwise (fun x y => x ≤ y) := by
    rw [hks]
    have := List.pairwise_mergeSort (le := fun x y : List UInt8 => decide (x ≤ y)) (fun a b c h1 h2 => by simp only [decide_eq_true_eq] at *; exact List.le_trans h1 h2) (fun a b => by simp only [Bool.or_eq_true, decide_eq_true_eq]; exact List.le_total a b) ss
    exact this.imp fun h => by simpa using h
  have hnd2 : ks.Nodup := (hperm2.trans hperm).nodup_iff.2 hnd
  have hR1 : Rel m s w' := rel_grown hR hbel
  have hssl : ss.length = ks.length := hperm2.length_eq.symm
  rw [hssl] at hrow
  obtain ⟨hr1, hrow⟩ := hrow
  by_cases hnl : ks = []
  · have hv : v = .slice none 0 0 := hnil.2 (by rw [hnl] at hperm2; exact hperm2.symm.eq_nil)
    refine ⟨_, _, s, m, rfl, M.le.refl m, hR1, ?_, ks, hsorted, hnd2, fun x => (hperm2.trans hperm).mem_iff.trans (hmem x), hlen, rfl, rfl⟩
    rw [hv, strsV, if_pos hnl]; exact .lit _
  · rcases hrow with ⟨hv, h0⟩ | ⟨g, cap, cur, hv, hg, hh', hcap, hmx, hcs, htk⟩
    · exact absurd (List.eq_nil_of_length_eq_zero h0) hnl
    · have hg1 : ∀ o v, m.com g o = some v → False := fun o v hc => by
        have := cell_lt (hR.com g o v hc)
        omega
      have hle : M.le m { m with com := fun b o => if b = g then cur[o]? else m.com b o } := by
        refine M.le.mk' rfl rfl (fun b o v hvv => ?_) (fun _ _ h => h) rfl (fun _ _ => rfl)
        show (if b = g then cur[o]? else m.com b o) = some v
        rw [if_neg (fun e => hg1 o v (by rw [← e]; exact hvv))]
        exact hvv
      refine ⟨_, _, s, _, rfl, hle, ⟨hR1.below, fun b o v hvv => ?_, fun id ob l hi hl => (hR1.objs id ob l hi hl).mono hle, fun id ob l hi hl => ⟨(hR1.own id ob l hi hl).1, fun o => ?_⟩, hR1.inj, hR1.fin⟩, ?_, ks, hsorted, hnd2, fun x => (hperm2.trans hperm).mem_iff.trans (hmem x), hlen, rfl, rfl⟩
      · simp only at hvv
        split at hvv
        · rename_i e
          rw [e]
          simp only [World.cell?, hh']
          simpa using hvv
        · exact hR1.com b o v hvv
      · show (if l.b = g then cur[o]? else m.com l.b o) = none
        have := (hR.objs id ob l hi hl).lt
        rw [if_neg (by omega)]
        exact (hR1.own id ob l hi hl).2 o
      · rw [hv, strsV, if_neg hnl]
        have hcur : ∀ j, j < ks.length → cur[j]? = (ks.map encStr)[j]? := fun j hj => by
          rw [← htk, List.getElem?_take, if_pos (by omega)]
          simp
        refine .list 1 ks.length _ false cap g 0 (fun j => cur.getD j undef) hcap (fun h => by cases h) (by simp) (fun x hx => ?_) (fun j hj => ?_) (fun j x hj => ?_)
        · obtain ⟨y, -, rfl⟩ := List.mem_map.1 hx
          rfl
        · have hj' : j < ks.length := by simpa using hj
          show (if g = g then cur[0 + j]? else _) = _
          rw [if_pos rfl, Nat.zero_add]
          have hlt : j < cur.size := by omega
          simp [Array.getD, hlt]
        · rw [List.getElem?_map] at hj
          cases hkj : ks[j]? with
          | none => rw [hkj] at hj; cases hj
          | some y =>
            rw [hkj] at hj
            cases hj
            have hj' : j < ks.length := (List.getElem?_eq_some_iff.1 hkj).1
            have h1 := hcur j hj'
            rw [List.getElem?_map, hkj] at h1
            simp only [Array.getD_eq_getD_getElem?, h1]
            exact .lit _
end Go.Proofs.Ythfoanmokcepcaa.CL
end
section
namespace Go.Proofs.Ythfoanmokcepcaa.DS
open Go.Proofs.Ythfoanmokcepcaa.H Go.Proofs.Ythfoanmokcepcaa.AS Go.Proofs.Ythfoanmokcepcaa.X0 Go.RowKit Go.MapKept
set_option linter.unusedVariables false
set_option linter.unusedSimpArgs false
set_option maxRecDepth 100000
section
variable {s h : HS} {d K : Nat} {D : DK} {tag : Nat → Nat} {mn ms : Nat} {A : HV} {fid : Nat → Nat} {B : Nat → HV}
/-- A copy of a map. -/
theorem clone37 {id n : Nat} {dd : TypeDesc} {f : Value → Option HV} (hs : s id = some (.map dd f n)) : HC Try.prog 37 [.map id] s (fun v t => ∃ q, s q = none ∧ v = .map q ∧ t = s.set q (.map dd f n)) := by
  intro m w cargs hR hn ha
  have h0 := ha 0 _ rfl
  obtain ⟨a0, rfl⟩ : ∃ a0, cargs = #[a0] := by
    match cargs, hn with
    | ⟨[a]⟩, _ => exact ⟨a, rfl⟩
  have h0' : Rep m (.map id) a0 := h0
  cases h0' with
  | map _ l hl =>
  obtain ⟨es, cl, g1, g2, g3, g4, g5, g6⟩ := hR.objs _ _ _ hs hl
  refine (AnyW.maps_Clone Try.clone37 l.b es cl w g1).mono ?_
  rintro e w' ⟨rfl, rfl⟩
  obtain ⟨N, hN1, hN2, hN3, hnew⟩ := hR.new (.map es cl) 0
  have hx : M.ex m { m with loc := fun k => if k = N then some ⟨w.heap.size, 0, 0⟩ else m.loc k } := ⟨fun _ _ _ h => h, fun i l hl => by
    show (if i = N then _ else m.loc i) = some l
    rw [if_neg (fun e => by rw [e, hN2] at hl; cases hl)]
    exact hl⟩
  obtain ⟨k1, k2⟩ := hnew (.map dd f n) ⟨es, cl, (MapKept.heap_alloc w _).1, g2, g3, g4, fun k x hk => (g5 k x hk).imp fun e he => ⟨he.1, he.2.1, he.2.2.ex hx⟩, g6⟩
  exact ⟨_, _, _, _, rfl, k1, k2, .map N ⟨w.heap.size, 0, 0⟩ (by simp), N, hN1, rfl, rfl⟩
theorem size19 (hP : PS h d D) (hl : HS.le h s) (hw : Wf K D) (n : By) : HC Try.prog 19 [.ptr d 0, strV n] s (fun v t => t = s ∧ v = .lit (.int .i64 (match look D.now n with | some i => ((D.files.getD i fl0).b.length : Int) | none => -1))) := by
  obtain ⟨tag, mn, ms, A, fid, B, hP⟩ := hP
  refine HC19 ?_
  unfold c19
  have ld1 := fun k => hP.ld hl k
  have hm := hl _ _ hP.now
  refine Join.of (fun xs t => t = s ∧ xs = [.lit (.bool (look D.now n).isNone)]) ?_ ?_
  rotate_left
  · intro K1 hK1
    simp only [eqp27, bindO, hcond, hvNil, hvFld, ld1, dC, List.getElem?_cons_succ, List.getElem?_cons_zero, lookN hm]
    cases hk : look D.now n with
    | none =>
      rw [hk] at hK1
      simp only [nilP, eqn77]
      exact hK1 _ _ ⟨rfl, rfl⟩
    | some i =>
      rw [hk] at hK1
      simp only [eqp77]
      exact hK1 _ _ ⟨rfl, rfl⟩
  rintro _ t ⟨rfl, rfl⟩
  simp only [List.headD_cons]
  cases hk : look D.now n with
  | none =>
    simp only [Option.isNone_none, hcond]
    exact ⟨trivial, trivial⟩
  | some i =>
    have hi := hw.look hk
    obtain ⟨f1, f2⟩ := hP.file i hi
    simp only [Option.isNone_some, hcond, bindO, hvNil, hvFld, ld1, dC, List.getElem?_cons_succ, List.getElem?_cons_zero, lookN hm, hk, ld_at (hl _ _ f1)]
    rw [show vLenT (Try.prog.underlying 22) t (B i) = some (.lit (.int .i64 (D.files.getD i fl0).b.length)) from f2.len _ _]
    exact ⟨trivial, by trivial⟩
theorem size19n (n : By) (s : HS) : HC Try.prog 19 [nilP, strV n] s (fun v t => t = s ∧ v = .lit (.int .i64 (-1))) := by
  refine HC19 ?_
  unfold c19 nilP
  refine Join.of (fun xs t => t = s ∧ xs = [.lit (.bool true)]) ?_ ?_
  · rintro _ t ⟨rfl, rfl⟩
    simp only [List.headD_cons, hcond]
    exact ⟨trivial, trivial⟩
  · intro K1 hK1
    simp only [eqn27, bindO, hcond]
    exact hK1 _ _ ⟨rfl, rfl⟩
def byV (l : List Int) : HV := .list 1 l.length (bl l) false
/-- A copy of bytes. -/
def AnyB (s : HS) (B : HV) (l : List Int) : Prop := (B = nilV ∧ l = []) ∨ (∃ q f cs, B = .view q 0 1 l.length f ∧ s q = some (.cells cs) ∧ cs.take l.length = bl l ∧ l.length ≤ cs.length) ∨ ∃ f, B = .list 1 l.length (bl l) f
theorem AnyB.cells {u : HS} {B : HV} {l : List Int} (hB : AnyB s B l) (hle : HS.le s u) : lcells u 1 B = some (bl l) := by
  rcases hB with ⟨rfl, rfl⟩ | ⟨q, f, cs, rfl, hq, ht, hc⟩ | ⟨f, rfl⟩
  · rfl
  · have hq' := hle _ _ hq
    simp [lcells, hq', hc, ht]
  · simp [lcells]
theorem AnyB.llen {B : HV} {l : List Int} (hB : AnyB s B l) : H.llen B = l.length := by
  rcases hB with ⟨rfl, rfl⟩ | ⟨q, f, cs, rfl, hq, ht, hc⟩ | ⟨f, rfl⟩ <;> rfl
theorem FRow.any {B : HV} {l : List Int} (hB : FRow h B l) (hl : HS.le h s) : AnyB s B l := by
  rcases hB with hB | ⟨q, f, rfl, hq⟩ | rfl
  · exact .inl hB
  · exact .inr (.inl ⟨q, f, _, rfl, hl _ _ hq, List.take_of_length_le (by rw [bl_len]; exact Nat.le_refl _), by rw [bl_len]; exact Nat.le_refl _⟩)
  · exact .inr (.inr ⟨_, rfl⟩)
theorem clone42 {B : HV} {l : List Int} (hB : AnyB s B l) (hn : l.length ≤ 1000000) : HC Try.prog 42 [B] s (fun v t => (v = byV l ∨ (l = [] ∧ v = nilV)) ∧ t = s) := by
  have go : (∀ e, vCmp (some (.slice e)) .eql B (.lit (.slice none 0 0)) = some (.lit (.bool false))) → HC Try.prog 42 [B] s (fun v t => (v = byV l ∨ (l = [] ∧ v = nilV)) ∧ t = s) := fun hc => by
    refine HC.up (HC42 ?_)
    unfold c42
    rw [show vCmp (Try.prog.underlying 22) .eql B (.lit (.slice none 0 0)) = some (.lit (.bool false)) from hc _]
    simp only [bindO, hcond]
    refine hBS0 fun Y hY => ?_
    refine app_empty (b := s) (le_set_new _ (le_refl' s) hY) hY (set_at _ _ _) (hB.cells (le_set_new _ (le_refl' s) hY)) hB.llen (by rw [bl_len, Nat.mul_one]) ⟨by omega, by omega⟩ ?_
    intro A' t' g1 g2
    exact ⟨_, s, acc0_upL g1 g2, .inl rfl, rfl⟩
  rcases hB with ⟨rfl, rfl⟩ | ⟨q, f, cs, rfl, hq, ht, hcl⟩ | ⟨ff, rfl⟩
  · refine HC42 ?_
    unfold c42
    rw [show vCmp (Try.prog.underlying 22) .eql nilV (.lit (.slice none 0 0)) = some (.lit (.bool true)) from rfl]
    simp only [bindO, hcond]
    exact ⟨.inr ⟨trivial, by trivial⟩, trivial⟩
  · exact go fun e => rfl
  · cases l with
    | nil =>
      refine HC.nilOr (pre := []) (post := []) (sz := 1) (full := ff) ?_ ?_
      · refine HC42 ?_
        unfold c42
        rw [show vCmp (Try.prog.underlying 22) .eql .nils (.lit (.slice none 0 0)) = some (.lit (.bool true)) from rfl]
        simp only [bindO, hcond]
        exact ⟨.inr ⟨trivial, by trivial⟩, trivial⟩
      · refine HC.up (HC42 ?_)
        unfold c42
        rw [show vCmp (Try.prog.underlying 22) .eql (.ne 1) (.lit (.slice none 0 0)) = some (.lit (.bool false)) from rfl]
        simp only [bindO, hcond]
        refine hBS0 fun Y hY => ?_
        refine app_empty (b := s) (k := 0) (xs := []) (le_set_new _ (le_refl' s) hY) hY (set_at _ _ _) rfl rfl rfl ⟨by omega, by omega⟩ ?_
        intro A' t' g1 g2
        exact ⟨_, s, acc0_upL g1 g2, .inl rfl, rfl⟩
    | cons x l => exact go fun e => rfl
/-- .. that are their reader's own. -/
theorem clone42O {B : HV} {l : List Int} (hB : AnyB s B l) (hn : l.length ≤ 1000000) : HC Try.prog 42 [B] s (fun v t => HS.le s t ∧ ((v = nilV ∧ l = []) ∨ ∃ q f, v = .view q 0 1 l.length f ∧ t q = some (.cells (bl l)) ∧ s q = none)) := by
  have app : ∀ X xs, lcells (s.set X (.cells [])) 1 xs = some (bl l) → H.llen xs = l.length → s X = none → hAppend (s.set X (.cells [])) 1 1 (.view X 0 1 0 true) xs (fun v t => HS.le s t ∧ ((v = nilV ∧ l = []) ∨ ∃ q f, v = .view q 0 1 l.length f ∧ t q = some (.cells (bl l)) ∧ s q = none)) := fun X xs h1 h2 h3 => by
    refine app_empty (b := s) (le_set_new _ (le_refl' s) h3) h3 (set_at _ _ _) h1 h2 (by rw [bl_len, Nat.mul_one]) ⟨by omega, by omega⟩ ?_
    intro A' t' g1 g2
    refine ⟨g2, ?_⟩
    rcases g1 with (⟨rfl, -, e⟩ | ⟨q, f, k1, k2, k3, -, -⟩) | ⟨e, e2, q, k1, k2, k3⟩
    · exact .inl ⟨rfl, List.length_eq_zero_iff.1 e⟩
    · exact .inr ⟨q, f, k2, k3, k1⟩
    · have : l = [] := List.length_eq_zero_iff.1 e
      subst this
      exact .inr ⟨q, true, k2, k3, k1⟩
  have go : (∀ e, vCmp (some (.slice e)) .eql B (.lit (.slice none 0 0)) = some (.lit (.bool false))) → HC Try.prog 42 [B] s (fun v t => HS.le s t ∧ ((v = nilV ∧ l = []) ∨ ∃ q f, v = .view q 0 1 l.length f ∧ t q = some (.cells (bl l)) ∧ s q = none)) := fun hc => by
    refine HC42 ?_
    unfold c42
    rw [show vCmp (Try.prog.underlying 22) .eql B (.lit (.slice none 0 0)) = some (.lit (.bool false)) from hc _]
    simp only [bindO, hcond]
    refine hBS0 fun Y hY => ?_
    exact app Y B (hB.cells (le_set_new _ (le_refl' s) hY)) hB.llen hY
  rcases hB with ⟨rfl, rfl⟩ | ⟨q, f, cs, rfl, hq, ht, hcl⟩ | ⟨ff, rfl⟩
  · refine HC42 ?_
    unfold c42
    rw [show vCmp (Try.prog.underlying 22) .eql nilV (.lit (.slice none 0 0)) = some (.lit (.bool true)) from rfl]
    simp only [bindO, hcond]
    exact ⟨le_refl' s, .inl ⟨by trivial, by trivial⟩⟩
  · exact go fun e => rfl
  · cases l with
    | nil =>
      refine HC.nilOr (pre := []) (post := []) (sz := 1) (full := ff) ?_ ?_
      · refine HC42 ?_
        unfold c42
        rw [show vCmp (Try.prog.underlying 22) .eql .nils (.lit (.slice none 0 0)) = some (.lit (.bool true)) from rfl]
        simp only [bindO, hcond]
        exact ⟨le_refl' s, .inl ⟨by trivial, by trivial⟩⟩
      · refine HC42 ?_
        unfold c42
        rw [show vCmp (Try.prog.underlying 22) .eql (.ne 1) (.lit (.slice none 0 0)) = some (.lit (.bool false)) from rfl]
        simp only [bindO, hcond]
        refine hBS0 fun Y hY => ?_
        have h9 := app Y (.ne 1) rfl rfl hY
        simp only at h9
        exact h9
    | cons x l => exact go fun e => rfl
end
end Go.Proofs.Ythfoanmokcepcaa.DS
end
section
namespace Go.Proofs.Ythfoanmokcepcaa.DS
open Go.Proofs.Ythfoanmokcepcaa.H Go.Proofs.Ythfoanmokcepcaa.AS Go.Proofs.Ythfoanmokcepcaa.X0 Go.RowKit Go.MapKept Go.Sort Go.Shelf Go.Maps
set_option linter.unusedVariables false
set_option linter.unusedSimpArgs false
set_option maxRecDepth 100000
theorem bl_lt : ∀ (a b : By), bl_ a b = true → a < b
  | [], [], h => by simp [bl_, Op.bytesLess] at h
  | [], y :: b, _ => List.nil_lt_cons y b
  | x :: a, [], h => by simp [bl_, Op.bytesLess] at h
  | x :: a, y :: b, h => by
    simp only [bl_, Op.bytesLess, Bool.or_eq_true, Bool.and_eq_true, decide_eq_true_eq, beq_iff_eq] at h
    rw [List.cons_lt_cons_iff]
    rcases h with h | ⟨rfl, h⟩
    · exact .inl h
    · exact .inr ⟨rfl, bl_lt a b h⟩
theorem le_bl {a b : By} (h : a ≤ b) (hne : a ≠ b) : bl_ a b = true := by
  cases hb : bl_ b a with
  | true => exact absurd (bl_lt _ _ hb) (List.not_lt.2 h)
  | false =>
    rcases bl_tri b a hb with h | h
    · exact absurd h.symm hne
    · exact h
/-- Names, told. -/
def namesV (ns : List By) : HV := accV 1 ns.length (rows strC ns)
theorem rows_str (ns : List By) : rows strC ns = ns.map strV := by
  induction ns with
  | nil => rfl
  | cons x l ih => rw [rows_cons, ih]; rfl
theorem strs_names (ks : List By) : CL.strsV ks = namesV ks := by
  unfold CL.strsV namesV accV
  by_cases e : ks = []
  · rw [if_pos e, if_pos (by rw [e]; rfl)]
  · rw [if_neg e, if_neg (fun hh => e (List.length_eq_zero_iff.1 hh)), rows_str]
    rfl
section
variable {s h : HS} {d K : Nat} {D : DK} {tag : Nat → Nat} {mn ms : Nat} {A : HV} {fid : Nat → Nat} {B : Nat → HV}
/-- The sorted keys of a map of names. -/
theorem keys41 {l : List Nm} {m : Nat} (hm : s m = some (.map .string (nmF fid l) l.length)) (hs : Srt l) (hlen : l.length ≤ 100000000) (hnl : ∀ x ∈ l, x.1.length ≤ 100) :
    HC Try.prog 41 [.map m] s (fun r5 s6 => HC Try.prog 40 [r5] s6 (fun v t => v = namesV (l.map Prod.fst) ∧ HS.le s t)) := by
  refine (CL.keys63 m).mono ?_
  rintro _ t ⟨q, hq, rfl, rfl⟩
  have hle := le_set_new (.root [.map m]) (le_refl' s) hq
  refine (CL.sorted62 (q := q) (mid := m) (set_at _ _ _) (hle _ _ hm) (fun k x hk => ?_) (by omega)).mono ?_
  · obtain ⟨n, i, rfl, e2, -⟩ := nmF_str hk
    refine ⟨_, rfl, ?_⟩
    have := hnl _ ((look_mem hs).1 e2)
    show n.toArray.size ≤ _
    simp
    simp only at this
    omega
  · rintro _ u ⟨ks, k1, k2, k3, k4, rfl, rfl⟩
    refine ⟨?_, hle⟩
    have : ks = l.map Prod.fst := by
      refine strict_uniq id ks (l.map Prod.fst) ?_ ?_ fun x => ?_
      · have := List.Pairwise.and k1 k2
        exact this.imp fun ⟨h1, h2⟩ => le_bl h1 h2
      · rw [List.pairwise_map]
        exact hs
      · rw [k3]
        have e : nmF fid l (encStr x) = (look l x).map fun i => .ptr (fid i) 0 := nmF_at x
        rw [e, Option.isSome_map]
        constructor
        · intro hh
          obtain ⟨i, hi⟩ := Option.isSome_iff_exists.1 hh
          exact List.mem_map.2 ⟨_, (look_mem hs).1 hi, rfl⟩
        · intro hh
          obtain ⟨y, hy, rfl⟩ := List.mem_map.1 hh
          rw [(look_mem hs).2 (show (y.1, y.2) ∈ l from hy)]
          rfl
    rw [strs_names, this]
theorem names20n (s : HS) : HC Try.prog 20 [nilP] s (fun v t => v = nilV ∧ t = s) := by
  refine HC20 ?_
  unfold c20 nilP
  simp only [eqn27, bindO, hcond]
  exact ⟨by trivial, by trivial⟩
/-- Bytes that were read. -/
def RV (x : HV) (l : List Int) : Prop := x = byV l ∨ (l = [] ∧ x = nilV)
theorem read17 (hP : PS h d D) (hl : HS.le h s) (hw : Wf K D) (n : By) : HC Try.prog 17 [.ptr d 0, strV n] s (fun v t => ∃ x, v = .tup [x, .lit (.int .i64 (D.read n).2)] ∧ RV x (D.read n).1 ∧ t = s) := by
  refine HC17 ?_
  unfold c17
  refine (size19 hP hl hw n).mono ?_
  rintro _ t ⟨rfl, rfl⟩
  obtain ⟨tag, mn, ms, A, fid, B, hP⟩ := hP
  have ld1 := fun k => hP.ld hl k
  have hm := hl _ _ hP.now
  unfold DK.read
  cases hk : look D.now n with
  | none =>
    simp only [lss_n, bindO, show decide ((-1 : Int) < 0) = true from rfl, hcond]
    exact ⟨_, rfl, .inr ⟨rfl, rfl⟩, trivial⟩
  | some i =>
    have hi := hw.look hk
    obtain ⟨f1, f2⟩ := hP.file i hi
    have hbi := (hw.at_ hi).1
    have hkk := hw.k
    have hn0 : ¬ (((D.files.getD i fl0).b.length : Int) < 0) := by omega
    simp only [lss_n, bindO, hn0, decide_false, hcond, hvNil, hvFld, ld1, dC, List.getElem?_cons_succ, List.getElem?_cons_zero, lookN hm, hk, ld_at (hl _ _ f1)]
    refine (clone42 (f2.any hl) (by omega)).mono ?_
    rintro x u ⟨hx, rfl⟩
    exact ⟨x, rfl, hx, rfl⟩
theorem read17n (n : By) (s : HS) : HC Try.prog 17 [nilP, strV n] s (fun v t => v = .tup [nilV, .lit (.int .i64 5)] ∧ t = s) := by
  refine HC17 ?_
  unfold c17
  refine (size19n n s).mono ?_
  rintro _ t ⟨rfl, rfl⟩
  simp only [lss_n, bindO, show decide ((-1 : Int) < 0) = true from rfl, hcond]
  exact ⟨by trivial, by trivial⟩
theorem syncDir15 (hP : PS h d D) (hl : HS.le h s) (hw : Wf K D) : HC Try.prog 15 [.ptr d 0] s (fun v t => Did2 s h t d D.syncDir v) := by
  obtain ⟨tag, mn, ms, A, fid, B, hP⟩ := hP
  refine HC15 ?_
  unfold c15
  refine (asked34 hP hl hw (ns := []) (.inl ⟨rfl, rfl⟩) (by simp)).mono ?_
  rintro _ t ⟨rfl, ht⟩
  have hT : Turn s h t (h.set d (.cells (dC D.ask mn ms A))) := by rw [ht]; exact Turn.set hl hP.at_ _
  clear ht
  have hP' := hP.ask
  generalize h.set d (.cells (dC D.ask mn ms A)) = h1 at hT hP'
  obtain ⟨e1, e2, e3, e4, e5, e6⟩ := ask_same D
  unfold DK.syncDir Did2
  by_cases he : D.err [] = 0
  · simp only [he, ne_eq, not_true, if_false, bindO, eql28, decide_true, hcond]
    refine Join.of (fun _ u => ∃ h', PS h' d { D.ask with safe := D.now, acts := [] } ∧ Turn s h u h') ?_ ?_
    · rintro _ u ⟨h', k1, k2⟩
      exact ⟨by trivial, h', k1, k2⟩
    · intro K3 hK3
      have ld1 := fun k => hP'.ld hT.1 k
      simp only [hvNil, hvFld, ld1, dC, List.getElem?_cons_succ, List.getElem?_cons_zero]
      refine (clone37 (hT.1 _ _ hP'.now)).mono ?_
      rintro _ u ⟨q, hq, rfl, rfl⟩
      have hT2 := hT.trans (Turn.new hT.1 hq (.map .string (nmF fid D.ask.now) D.ask.now.length))
      have hq1 : h1 q = none := none_of_le hT.1 hq
      have hdq : d ≠ q := fun e => by rw [← e, hP'.at_] at hq1; cases hq1
      have hmq : mn ≠ q := fun e => by rw [← e, hP'.now] at hq1; cases hq1
      have h2d : (h1.set q (.map .string (nmF fid D.ask.now) D.ask.now.length)) d = some (.cells (dC D.ask mn ms A)) := by rw [set_ne _ _ hdq]; exact hP'.at_
      refine store1 (hT2.1 _ _ h2d) (by simp [dC]) (hc_map _) (ho_map _) rfl ?_
      refine store1 (set_at _ _ _) (by simp [dC]) (hc_slice _ _ _) (ho_slice _ _ _) rfl ?_
      rw [set_set]
      have hT3 := hT2.trans (Turn.set hT2.1 h2d (.cells (dC { D.ask with safe := D.now, acts := [] } mn q nilV)))
      obtain ⟨g1, g2⟩ := hP'.nd
      obtain ⟨tag', hfin⟩ := hP'.re (h3 := (h1.set q (.map .string (nmF fid D.ask.now) D.ask.now.length)).set d (.cells (dC { D.ask with safe := D.now, acts := [] } mn q nilV))) (D3 := { D.ask with safe := D.now, acts := [] }) (mn3 := mn) (ms3 := q) (A3 := nilV) (set_at _ _ _)
        (by rw [set_ne _ _ g1, set_ne _ _ hmq]; exact hP'.now) (by rw [set_ne _ _ (Ne.symm hdq), set_at, e1]) hmq (.inl ⟨rfl, rfl, rfl⟩) rfl
        (fun k ob hk ht => by
          rw [set_ne _ _ (fun e => ht (by rw [e]; exact hP'.td.1)), set_ne _ _ (fun e => by rw [e, hq1] at hk; cases hk)]
          exact hk) (.inr hP'.td.2.1) (.inl hq1) (fun q hq => by cases hq)
      exact hK3 _ _ ⟨_, hfin.ps, hT3⟩
  · simp only [he, ne_eq, not_false_iff, if_true, bindO, eql28, decide_false, hcond]
    refine Join.of (fun _ u => u = t) ?_ ?_
    · rintro _ u rfl
      exact ⟨by trivial, h1, hP'.ps, hT⟩
    · intro K3 hK3
      exact hK3 _ _ rfl
end
end Go.Proofs.Ythfoanmokcepcaa.DS
end
section
namespace Go.Proofs.Ythfoanmokcepcaa.DS
open Go.Proofs.Ythfoanmokcepcaa.H Go.Proofs.Ythfoanmokcepcaa.AS Go.Proofs.Ythfoanmokcepcaa.X0
set_option linter.unusedVariables false
set_option linter.unusedSimpArgs false
set_option maxRecDepth 100000
def intC (x : Int) : List HV := [.lit (.int .i64 x)]
theorem intC_len (x : Int) : (intC x).length = 1 := rfl
/-- A row of numbers that is read. -/
def IRow (v : HV) (l : List Int) : Prop := v = rowL intC 1 l ∨ (l = [] ∧ v = nilV)
theorem tmod_fix (x m : Int) (hm : 0 < m) : (if x.tmod m < 0 then x.tmod m + m else x.tmod m) = x % m := by
  have h1 := Int.emod_nonneg x (show m ≠ 0 by omega)
  have h2 := Int.emod_lt_of_pos x hm
  rw [Int.tmod_eq_emod]
  split
  · rename_i hc
    rw [if_neg (by omega)]
    omega
  · rename_i hc
    have h3 : x % m ≠ 0 := fun e => hc (.inr (Int.dvd_of_emod_eq_zero e))
    rw [if_pos (by omega)]
    omega
theorem tmod_bd (x m : Int) (hm : 0 < m) : -m < x.tmod m ∧ x.tmod m < m := by
  have h1 := Int.emod_nonneg x (show m ≠ 0 by omega)
  have h2 := Int.emod_lt_of_pos x hm
  rw [Int.tmod_eq_emod]
  split
  · omega
  · rename_i hc
    have h3 : x % m ≠ 0 := fun e => hc (.inr (Int.dvd_of_emod_eq_zero e))
    omega
theorem part_bd (l : List Int) {n : Int} (hn : 0 ≤ n) : 0 ≤ part l n ∧ part l n ≤ n := by
  unfold part
  split
  · omega
  · rename_i k r
    have h1 := Int.emod_nonneg k (show n + 1 ≠ 0 by omega)
    have h2 := Int.emod_lt_of_pos k (show 0 < n + 1 by omega)
    omega
section
variable {s h : HS} {d K : Nat} {D : DK} {tag : Nat → Nat} {mn ms : Nat} {A : HV} {fid : Nat → Nat} {B : Nat → HV}
theorem part38 {a0 : HV} {l : List Int} (ha : IRow a0 l) {n : Int} (hn : 0 ≤ n ∧ n ≤ 1000000000) (s : HS) : HC Try.prog 38 [a0, .lit (.int .i64 n)] s (fun v t => t = s ∧ ∃ a1, v = .tup [.lit (.int .i64 (part l n)), a1] ∧ IRow a1 l.tail) := by
  refine HC38 ?_
  unfold c38
  have hlen : vLenT (Try.prog.underlying 24) s a0 = some (.lit (.int .i64 ((l.length : Nat) : Int))) := by
    rcases ha with rfl | ⟨rfl, rfl⟩ <;> rfl
  rw [hlen]
  simp only [bindO, eql3]
  cases l with
  | nil =>
    simp only [List.length_nil, show decide (((0 : Nat) : Int) = 0) = true from rfl, hcond]
    exact ⟨trivial, _, rfl, .inr ⟨rfl, rfl⟩⟩
  | cons k l =>
    have h0 : decide ((((k :: l).length : Nat) : Int) = 0) = false := by rw [decide_eq_false_iff_not, List.length_cons]; omega
    have ha' : a0 = rowL intC 1 (k :: l) := by
      rcases ha with rfl | ⟨e, -⟩
      · rfl
      · cases e
    subst ha'
    have x1 : vIdx 1 (rowL intC 1 (k :: l)) (.lit (.int .i64 0)) = some (.elt (intC k) 0) := idx_rowL intC_len 0 (k :: l) (i := 0) .i64 (by simp)
    simp only [h0, hcond, x1]
    rw [show vLoad s (.elt (intC k) 0) 1 false = some (.lit (.int .i64 k)) from rfl]
    rw [add_n (by omega) (by omega)]
    simp only
    rw [show vBin .rem (.lit (.int .i64 k)) (.lit (.int .i64 (n + 1))) = some (.lit (.int .i64 (k.tmod (n + 1)))) from by
      simp only [vBin, if_true]
      rw [if_neg (by omega)]]
    have hb := tmod_bd k (n + 1) (by omega)
    have hfix := tmod_fix k (n + 1) (by omega)
    simp only [lss_n]
    refine Join.of (fun xs t => t = s ∧ xs = [.lit (.int .i64 (k % (n + 1)))]) ?_ ?_
    · rintro _ t ⟨rfl, rfl⟩
      have x2 : vSlice 1 (rowL intC 1 (k :: l)) (some (.lit (.int .i64 1))) none none = some (rowL intC 1 l) := by
        have := slice_rowL_lo intC_len (k :: l) (lo := 1) .i64 (by simp)
        exact this
      simp only [List.headD_cons, x2]
      exact ⟨trivial, _, rfl, .inl rfl⟩
    · intro K7 hK7
      by_cases hlt : k.tmod (n + 1) < 0
      · rw [if_pos hlt] at hfix
        simp only [hlt, decide_true]
        rw [add_n (a := k.tmod (n + 1)) (b := n + 1) (by omega) (by omega)]
        exact hK7 _ _ ⟨rfl, by rw [hfix]⟩
      · rw [if_neg hlt] at hfix
        simp only [hlt, decide_false]
        exact hK7 _ _ ⟨rfl, by rw [hfix]⟩
theorem numbered_app : ∀ (l : List Nm) (x : Nm) (k : Nat), numbered (l ++ [x]) k = numbered l k ++ [(x.1, k + l.length)]
  | [], x, k => rfl
  | y :: l, x, k => by
    show (y.1, k) :: numbered (l ++ [x]) (k + 1) = (y.1, k) :: numbered l (k + 1) ++ [(x.1, k + (l.length + 1))]
    rw [numbered_app l x (k + 1), show k + 1 + l.length = k + (l.length + 1) from by omega]
    rfl
theorem numbered_names : ∀ (l : List Nm) (k : Nat), (numbered l k).map Prod.fst = l.map Prod.fst
  | [], _ => rfl
  | x :: l, k => by
    show x.1 :: (numbered l (k + 1)).map Prod.fst = x.1 :: l.map Prod.fst
    rw [numbered_names l]
theorem numbered_len (l : List Nm) (k : Nat) : (numbered l k).length = l.length := by
  have := congrArg List.length (numbered_names l k)
  simpa using this
theorem numbered_lt : ∀ (l : List Nm) (k : Nat), ∀ x ∈ numbered l k, x.2 < k + l.length
  | [], _, x, hx => by cases hx
  | y :: l, k, x, hx => by
    rcases List.mem_cons.1 (show x ∈ (y.1, k) :: numbered l (k + 1) from hx) with rfl | hx
    · simp
    · have := numbered_lt l (k + 1) x hx
      rw [List.length_cons]
      omega
theorem srt_names {a b : List Nm} (h : Srt a) (e : b.map Prod.fst = a.map Prod.fst) : Srt b := by
  have h1 : (a.map Prod.fst).Pairwise fun x y => bl_ x y = true := List.pairwise_map.2 h
  rw [← e] at h1
  exact List.pairwise_map.1 h1
theorem srt_take {l : List Nm} (h : Srt l) (j : Nat) : Srt (l.take j) := List.Pairwise.sublist (List.take_sublist j l) h
theorem with_last {l : List Nm} {n : By} (i : Nat) (h : ∀ x ∈ l, bl_ x.1 n = true) : withN l n i = l ++ [(n, i)] := by
  unfold withN
  rw [List.filter_eq_self.2 h, List.filter_eq_nil_iff.2 fun x hx => by rw [bl_asymm (h x hx)]; exact Bool.false_ne_true]
/-- The disk behind a crash, on the way. -/
def ND (room : Int) (l : List Nm) (fs : List Fl) (j : Nat) : DK := ⟨room, fs, numbered (l.take j) 0, [], [], false, 0, false, 0⟩
theorem crash16 (hP : PS h d D) (hl : HS.le h s) (hw : Wf K D) (hc : Ch D) {a1 : HV} {picks : List Int} (hp : IRow a1 picks) :
    HC Try.prog 16 [.ptr d 0, a1] s (fun v t => ∃ dd h', v = .ptr dd 0 ∧ PS h' dd (D.crash picks) ∧ HS.le h' t ∧ HS.le s t ∧ ∀ k ob, s k = some ob → h' k = none) := by
  obtain ⟨tag, mn, ms, A, fid, B, hP⟩ := hP
  refine HC16 ?_
  unfold c16
  have ld0 := fun k => hP.ld hl k
  have hroom := hw.room
  have hna := hw.na
  have hkk := hw.k
  refine Join.of (fun xs t => t = s ∧ xs = [.lit (.bool false)]) ?_ ?_
  rotate_left
  · intro K1 hK1
    simp only [eqp27, bindO, hcond, hvNil, hvFld, ld0, dC, List.getElem?_cons_succ, List.getElem?_cons_zero, eqm72]
    exact hK1 _ _ ⟨rfl, rfl⟩
  rintro _ t ⟨rfl, rfl⟩
  simp only [List.headD_cons, hcond, bindO, hvNil, hvFld, ld0, dC, List.getElem?_cons_succ, List.getElem?_cons_zero]
  rw [show vLenT (Try.prog.underlying 73) t A = some (.lit (.int .i64 ((D.acts.length : Nat) : Int))) from by rcases hP.acts with ⟨rfl, -, e⟩ | ⟨q, f, rfl, -⟩; rw [e]; rfl; rfl]
  simp only
  refine (part38 hp (n := (D.acts.length : Nat)) (by omega) t).mono ?_
  rintro _ t1 ⟨rfl, a2, rfl, hp2⟩
  obtain ⟨b1, b2⟩ := part_bd picks (n := (D.acts.length : Nat)) (by omega)
  obtain ⟨p, hpe⟩ : ∃ p : Nat, part picks (D.acts.length : Nat) = (p : Int) := ⟨(part picks (D.acts.length : Nat)).toNat, by omega⟩
  have hple : p ≤ D.acts.length := by omega
  rw [hpe]
  simp only [vExtract, List.getElem?_cons_succ, List.getElem?_cons_zero, ld0, dC]
  refine (clone37 (hl _ _ hP.safe)).mono ?_
  rintro _ t2 ⟨q, hq, rfl, rfl⟩
  have hle1 := le_set_new (.map .string (nmF fid D.safe) D.safe.length) (le_refl' t1) hq
  have hl1 := HS.le.trans hl hle1
  have ld1 := fun k => hP.ld hl1 k
  simp only [hvNil, hvFld, ld1, dC, List.getElem?_cons_succ, List.getElem?_cons_zero]
  obtain ⟨x25, hx25, hx25l, hx25a⟩ : ∃ x25, vSlice 3 A none (some (.lit (.int .i64 (p : Int)))) none = some x25 ∧ (∀ u, vLenT (Try.prog.underlying 73) u x25 = some (.lit (.int .i64 (p : Int)))) ∧ ∀ u i, HS.le h u → i < p → ∃ e, vIdx 3 x25 (.lit (.int .i64 (i : Int))) = some e ∧ vLoad u e 3 true = some (.agg (acP fid (D.acts.getD i ac0))) := by
    rcases hP.acts with ⟨rfl, -, e⟩ | ⟨q0, f, rfl, h3, h4⟩
    · have hp0 : p = 0 := by omega
      subst hp0
      exact ⟨nilV, rfl, fun u => rfl, fun u i _ hi => absurd hi (Nat.not_lt_zero _)⟩
    · refine ⟨.view q0 0 3 p (f && p == D.acts.length), slice_view_hi .i64 hple, fun u => rfl, fun u i hu hi => ?_⟩
      have hq0 : u q0 = some (.cells (rows (acP fid) D.acts ++ [])) := by rw [List.append_nil]; exact hu _ _ h3
      refine ⟨_, idx_view .i64 hi, ?_⟩
      rw [Nat.zero_add]
      exact load_rows (acP_len fid) ac0 hq0 (by omega)
  rw [hx25]
  simp only [hx25l]
  have hsq : ∀ k ob, t1 k = some ob → k ≠ q := fun k ob hk => ne_new hk hq
  refine HLoop.ghost (σ := Nat) (fun i => [.lit (.int .i64 (i : Int))]) (fun i u => i ≤ p ∧ HS.le t1 u ∧ u q = some (.map .string (nmF fid ((D.acts.take i).foldl applyA D.safe)) ((D.acts.take i).foldl applyA D.safe).length)) (fun i => p - i) 0 rfl ⟨Nat.zero_le _, hle1, set_at _ _ _⟩ ?_
  rintro i u K' ⟨h1, h2, h3⟩ hK
  simp only [List.headD_cons, lss_i]
  by_cases hlt : i < p
  · obtain ⟨e, y1, y2⟩ := hx25a u i (HS.le.trans hl h2) hlt
    have hia : i < D.acts.length := by omega
    have htk := take_succ' ac0 D.acts hia
    simp only [hlt, decide_true, y1, y2]
    refine new_store (vs := acP fid (D.acts.getD i ac0)) rfl (acP_len fid _) (acP_one fid _) fun X hX => ?_
    have hle2 := le_set_new (.cells (acP fid (D.acts.getD i ac0))) (le_refl' u) hX
    have hXl := load_all (acP_len fid (D.acts.getD i ac0)) (set_at u X (.cells (acP fid (D.acts.getD i ac0))))
    have hq2 := hle2 _ _ h3
    generalize u.set X (.cells (acP fid (D.acts.getD i ac0))) = u1 at *
    simp only [hXl]
    have hval : ValA D.files.length ((D.acts.take i).foldl applyA D.safe) (D.acts.getD i ac0) := by
      have hv := hc.val.take (i + 1)
      rw [htk] at hv
      have : ∀ (ac : List AC) (l : List Nm) (a : AC), Val D.files.length l (ac ++ [a]) → ValA D.files.length (ac.foldl applyA l) a := by
        intro ac
        induction ac with
        | nil => intro l a hv; exact hv.1
        | cons b ac ih => intro l a hv; exact ih _ _ hv.2
      exact this _ _ _ hv
    refine (does39 hq2 (srt_foldl hw.ss _) hval).mono ?_
    rintro _ u2 ⟨rfl, u3, hu3, rfl⟩
    simp only [inc_i hlt (by omega)]
    refine hK (i + 1) _ _ rfl ⟨hlt, fun k ob hk => ?_, ?_⟩ (by omega)
    · rw [set_ne _ _ (hsq k ob hk)]
      exact hu3 _ _ (hle2 _ _ (h2 _ _ hk))
    · rw [set_at, htk, List.foldl_append]
      rfl
  · obtain rfl : i = p := by omega
    simp only [hlt, decide_false]
    clear hK
    have hsl := srt_foldl hw.ss (D.acts.take i)
    have hvt := hc.val.take i
    have hnl := nl_foldl hvt hw.sl
    have hidx := mem_foldl hvt hw.ns
    have hlen : ((D.acts.take i).foldl applyA D.safe).length ≤ 2000000 := by
      have h1 := len_foldl (D.acts.take i) D.safe
      have h2 : (D.acts.take i).length ≤ D.acts.length := by rw [List.length_take]; omega
      have h4 := hw.nsf
      omega
    have hcr : D.crash picks = { ND D.room ((D.acts.take i).foldl applyA D.safe) (crashF D.files ((D.acts.take i).foldl applyA D.safe) picks.tail) ((D.acts.take i).foldl applyA D.safe).length with safe := numbered ((D.acts.take i).foldl applyA D.safe) 0 } := by
      unfold DK.crash ND
      rw [hpe, List.take_length]
      rfl
    rw [hcr]
    generalize (D.acts.take i).foldl applyA D.safe = l at *
    clear hcr hvt hx25a hx25l hx25 hpe
    have hlu := HS.le.trans hl h2
    have ldu := fun k => hP.ld hlu k
    simp only [hvNil, hvFld, ldu, dC, List.getElem?_cons_succ, List.getElem?_cons_zero]
    refine (new12 u).mono ?_
    rintro v u1 hv
    rw [if_pos hroom] at hv
    obtain ⟨dd, g0, rfl, hg0, hg0l, hle3, hfr⟩ := hv
    simp only [vExtract, List.getElem?_cons_succ, List.getElem?_cons_zero]
    refine (keys41 (hle3 _ _ h3) hsl (by omega) hnl).mono ?_
    intro r5 s6 hcall
    refine hcall.mono ?_
    rintro _ u2 ⟨rfl, hle4⟩
    have hq2 := hle4 _ _ (hle3 _ _ h3)
    have h2' : HS.le t1 u2 := HS.le.trans h2 (HS.le.trans hle3 hle4)
    have hg2 : HS.le g0 u2 := HS.le.trans hg0l hle4
    have hfr' : ∀ k ob, t1 k = some ob → g0 k = none := fun k ob hk => hfr k ob (h2 _ _ hk)
    have hqg : g0 q = none := hfr q _ h3
    have hnv : ∀ v, vLenT (Try.prog.underlying 41) v (namesV (l.map Prod.fst)) = some (.lit (.int .i64 ((l.length : Nat) : Int))) := fun v => by
      unfold namesV accV
      rw [List.length_map]
      split
      · rename_i e; rw [e]; rfl
      · rfl
    have hni : ∀ j, j < l.length → vIdx 1 (namesV (l.map Prod.fst)) (.lit (.int .i64 (j : Int))) = some (.elt (strC (l.getD j nm0).1) 0) := fun j hj => by
      have hj' : j < (l.map Prod.fst).length := by rw [List.length_map]; exact hj
      have e : namesV (l.map Prod.fst) = rowL strC 1 (l.map Prod.fst) := by
        unfold namesV accV
        rw [if_neg (by omega)]
        rfl
      rw [e, idx_rowL strC_len [] _ .i64 hj']
      congr 3
      rw [List.getD, List.getD, List.getElem?_map, List.getElem?_eq_getElem hj]
      rfl
    simp only [hnv]
    clear h3 hg0l hle3 hfr hle4 h2 hlu ldu
    refine HLoop.ghost (σ := HV × List Int × Nat × List Fl) (fun x => [x.1, .lit (.int .i64 (x.2.2.1 : Int))]) (fun x w => x.2.2.1 ≤ l.length ∧ IRow x.1 x.2.1 ∧ x.2.2.2.length = x.2.2.1 ∧ crashF D.files l picks.tail = x.2.2.2 ++ crashF D.files (l.drop x.2.2.1) x.2.1 ∧ w q = some (.map .string (nmF fid l) l.length) ∧ HS.le t1 w ∧ ∃ g tag' mn' ms' A' fid' B', PD g dd (ND D.room l x.2.2.2 x.2.2.1) tag' mn' ms' A' fid' B' ∧ HS.le g w ∧ (∀ k ob, t1 k = some ob → g k = none) ∧ g q = none) (fun x => l.length - x.2.2.1) (a2, picks.tail, 0, []) rfl ⟨Nat.zero_le _, hp2, rfl, rfl, hq2, h2', ?_⟩ ?_
    · obtain ⟨tag', mn', ms', A', fid', B', hPD⟩ := hg0
      exact ⟨g0, tag', mn', ms', A', fid', B', hPD, hg2, hfr', hqg⟩
    rintro ⟨a3, pk, j, done⟩ w K2 ⟨r1, r2, r3, r4, r5, r6, g, tag', mn', ms', A', fid', B', r7, r8, r9, r10⟩ hK2
    simp only at r1 r2 r3 r4 r5 r6 r7 r8 r9 r10
    have hlw := HS.le.trans hl r6
    have ldd := fun k => r7.ld r8 k
    simp only [List.headD_cons, List.tail_cons, lss_i]
    by_cases hlt2 : j < l.length
    · have hdc := drop_cons' nm0 l hlt2
      have hxm := getD_memD nm0 hlt2
      have htk2 := take_succ' nm0 l hlt2
      have hlast : ∀ y ∈ numbered (l.take j) 0, bl_ y.1 (l.getD j nm0).1 = true := fun y hy => by
        have hy1 : y.1 ∈ (l.take j).map Prod.fst := by rw [← numbered_names (l.take j) 0]; exact List.mem_map_of_mem hy
        obtain ⟨z, hz, e⟩ := List.mem_map.1 hy1
        have hs2 : Srt (l.take (j + 1)) := srt_take hsl (j + 1)
        rw [htk2] at hs2
        have := (List.pairwise_append.1 hs2).2.2 z hz (l.getD j nm0) (List.mem_singleton.2 rfl)
        rw [← e]
        exact this
      simp only [hlt2, decide_true, hni j hlt2]
      generalize l.getD j nm0 = x at *
      have hlk : look l x.1 = some x.2 := (look_mem hsl).2 hxm
      have hxi := hidx x hxm
      obtain ⟨f1, f2⟩ := hP.file x.2 hxi
      have hfa := hw.at_ hxi
      have hfw := hlw _ _ f1
      generalize hfl : D.files.getD x.2 fl0 = fl at *
      have hcs : crashF D.files (l.drop j) pk = (if fl.safe < fl.b.length then ⟨fl.b.take (fl.safe + part pk (fl.b.length - fl.safe)).toNat, fl.safe + part pk (fl.b.length - fl.safe)⟩ :: crashF D.files (l.drop (j + 1)) pk.tail else ⟨fl.b.take fl.safe.toNat, fl.safe⟩ :: crashF D.files (l.drop (j + 1)) pk) := by
        rw [hdc]
        show (if (D.files.getD x.2 fl0).safe < ((D.files.getD x.2 fl0).b.length : Int) then _ else _) = _
        rw [hfl]
      rw [show vLoad w (.elt (strC x.1) 0) 1 false = some (strV x.1) from rfl]
      simp only [lookN r5, hlk]
      refine Join.of (fun xs v => v = w ∧ ∃ (a4 : HV) (pk4 : List Int) (N : Nat), xs = [a4, .lit (.int .i64 ((N : Int) - fl.safe))] ∧ IRow a4 pk4 ∧ fl.safe ≤ (N : Int) ∧ N ≤ fl.b.length ∧ crashF D.files (l.drop j) pk = (⟨fl.b.take N, ((N : Nat) : Int)⟩ : Fl) :: crashF D.files (l.drop (j + 1)) pk4) ?_ ?_
      rotate_left
      · intro K59 hK59
        simp only [hvNil, hvFld, ld_at hfw, List.getElem?_cons_succ, List.getElem?_cons_zero]
        rw [show vLenT (Try.prog.underlying 22) w (B x.2) = some (.lit (.int .i64 fl.b.length)) from f2.len _ _]
        simp only [lss_n]
        by_cases hsf : fl.safe < (fl.b.length : Int)
        · rw [if_pos hsf] at hcs
          simp only [hsf, decide_true]
          rw [sub_n (by omega) (by omega)]
          simp only
          refine (part38 r2 (n := (fl.b.length : Int) - fl.safe) (by omega) w).mono ?_
          rintro _ v ⟨rfl, a4, rfl, hp4⟩
          obtain ⟨p1, p2⟩ := part_bd pk (n := (fl.b.length : Int) - fl.safe) (by omega)
          simp only [vExtract, List.getElem?_cons_succ, List.getElem?_cons_zero]
          have hN : (((fl.safe + part pk (fl.b.length - fl.safe)).toNat : Nat) : Int) = fl.safe + part pk (fl.b.length - fl.safe) := by omega
          refine hK59 _ _ ⟨rfl, a4, pk.tail, (fl.safe + part pk (fl.b.length - fl.safe)).toNat, ?_, hp4, by omega, by omega, ?_⟩
          · rw [hN, show fl.safe + part pk (fl.b.length - fl.safe) - fl.safe = part pk (fl.b.length - fl.safe) from by omega]
          · rw [hcs, hN]
        · rw [if_neg hsf] at hcs
          simp only [hsf, decide_false]
          have hN : ((fl.safe.toNat : Nat) : Int) = fl.safe := by omega
          refine hK59 _ _ ⟨rfl, a3, pk, fl.safe.toNat, ?_, r2, by omega, by omega, ?_⟩
          · rw [hN, show fl.safe - fl.safe = 0 from by omega]
          · rw [hcs, hN]
      rintro _ v ⟨rfl, a4, pk4, N, rfl, q2, q3, q4, q5⟩
      simp only [List.headD_cons, List.tail_cons, hvNil, hvFld, ld_at hfw, List.getElem?_cons_succ, List.getElem?_cons_zero]
      rw [add_n (by omega) (by omega), show (N : Int) - fl.safe + fl.safe = (N : Int) from by omega]
      simp only [hvNil, hvFld, ldd, dC, List.getElem?_cons_succ, List.getElem?_cons_zero]
      obtain ⟨xc, hxc, hxa⟩ : ∃ xc, vSlice 1 (B x.2) none (some (.lit (.int .i64 (N : Int)))) none = some xc ∧ AnyB v xc (fl.b.take N) := by
        have hbt : (bl fl.b).take N = bl (fl.b.take N) := by unfold bl; rw [List.map_take]
        have hmn : min N fl.b.length = N := by omega
        rcases f2 with ⟨e1, e2⟩ | ⟨q0, f, e1, e2⟩ | e1
        · have hN : N = 0 := by rw [e2] at q4; simpa using q4
          subst hN
          exact ⟨nilV, by rw [e1]; rfl, .inl ⟨rfl, by simp⟩⟩
        · refine ⟨.view q0 0 1 N (f && N == fl.b.length), by rw [e1]; exact slice_view_hi .i64 q4, .inr (.inl ⟨q0, _, bl fl.b, by rw [List.length_take, hmn], hlw _ _ e2, ?_, ?_⟩)⟩
          · rw [List.length_take, hmn]; exact hbt
          · rw [List.length_take, hmn, bl_len]; exact q4
        · refine ⟨.list 1 (fl.b.take N).length (bl (fl.b.take N)) (true && N == fl.b.length), ?_, .inr (.inr ⟨_, rfl⟩)⟩
          rw [e1]
          simp [vSlice, cutAt, intAt, q4, hbt, hmn]
      rw [hxc]
      simp only
      refine (clone42O hxa (by rw [List.length_take]; omega)).mono ?_
      rintro bv w1 ⟨hle9, hbv⟩
      have ldd1 : ∀ k, vLoad w1 (.ptr dd k) 1 false = (dC (ND D.room l done j) mn' ms' A')[k]? := fun k => r7.ld (HS.le.trans r8 hle9) k
      refine ⟨by rw [ldd1]; rfl, ?_⟩
      have hbo : hone bv = true := by rcases hbv with ⟨rfl, -⟩ | ⟨_, _, rfl, -⟩ <;> rfl
      have hbc : hcells bv = some [bv] := by rcases hbv with ⟨rfl, -⟩ | ⟨_, _, rfl, -⟩ <;> rfl
      rw [show vMk [(0, 1), (1, 1)] [.lit (.slice none 0 0), .lit (.int .i64 0)] [(0, bv), (1, .lit (.int .i64 (N : Int)))] = some (.agg [bv, .lit (.int .i64 (N : Int))]) from by simp [vMk, hfill, hbc, hc_int]]
      simp only
      refine boxI (hc_agg _) fun F hF => ?_
      have hle10 := le_set_new (.cells [bv, .lit (.int .i64 (N : Int))]) (le_refl' w1) hF
      have hle11 := HS.le.trans hle9 hle10
      have hwF : v F = none := none_of_le hle9 hF
      have hgF : g F = none := none_of_le r8 hwF
      refine ⟨by rw [r7.ld (HS.le.trans r8 hle11), ldd1], ?_⟩
      -- the new disk has one more
      have hnn : ∀ y ∈ (ND D.room l done j).now, y.2 < (ND D.room l done j).files.length := fun y hy => by
        have := numbered_lt _ _ y hy
        rw [List.length_take] at this
        show y.2 < done.length
        omega
      obtain ⟨tag2, B2, fid2, c1, c2, c3⟩ := r7.newF (srt_names (srt_take hsl j) (numbered_names _ _)) List.Pairwise.nil hnn (fun y hy => by cases hy) (fun y hy => by cases hy) hgF
      have hdl : (ND D.room l done j).files.length = j := r3
      rw [hdl] at c1
      -- its row
      obtain ⟨g2, hg2, hg2F, hg2B, hg2k, hg2n, hg2le⟩ : ∃ g2 : HS, (∀ k ob, g k = some ob → g2 k = some ob) ∧ g2 F = some (.cells [bv, .lit (.int .i64 (N : Int))]) ∧ FRow g2 bv (fl.b.take N) ∧ (∀ q, accId bv = some q → (g.set F (.cells [nilV, .lit (.int .i64 0)])) q = none ∧ q ≠ F) ∧ (∀ k ob, v k = some ob → g k = none → g2 k = none) ∧ HS.le g2 (w1.set F (.cells [bv, .lit (.int .i64 (N : Int))])) := by
        rcases hbv with ⟨rfl, e⟩ | ⟨q0, f0, rfl, e2, e3⟩
        · refine ⟨g.set F (.cells [nilV, .lit (.int .i64 (N : Int))]), fun k ob hk => by rw [set_ne _ _ (fun e => by rw [e, hgF] at hk; cases hk)]; exact hk, set_at _ _ _, .inl ⟨rfl, e⟩, (fun q hq => by cases hq), fun k ob hk hk2 => ?_, le_set (HS.le.trans r8 hle9) _ _⟩
          rw [set_ne _ _ (ne_new hk hwF)]
          exact hk2
        · have hqF : q0 ≠ F := fun e => by rw [e, hF] at e2; cases e2
          have hgq : g q0 = none := none_of_le r8 e3
          refine ⟨(g.set q0 (.cells (bl (fl.b.take N)))).set F (.cells [_, .lit (.int .i64 (N : Int))]), fun k ob hk => ?_, set_at _ _ _, .inr (.inl ⟨q0, f0, rfl, by rw [set_ne _ _ hqF]; exact set_at _ _ _⟩), fun q hq => ?_, fun k ob hk hk2 => ?_, le_set (fun k ob hk => ?_) _ _⟩
          · rw [set_ne _ _ (fun e => by rw [e, hgF] at hk; cases hk), set_ne _ _ (fun e => by rw [e, hgq] at hk; cases hk)]
            exact hk
          · cases hq
            exact ⟨by rw [set_ne _ _ hqF]; exact hgq, hqF⟩
          · rw [set_ne _ _ (ne_new hk hwF), set_ne _ _ (ne_new hk e3)]
            exact hk2
          · by_cases e : k = q0
            · subst e; rw [set_at] at hk; cases hk; exact e2
            · rw [set_ne _ _ e] at hk; exact hle9 _ _ (r8 _ _ hk)
      obtain ⟨t1f, t2f⟩ := c2.ti j (by show j < (done ++ [fl0]).length; rw [List.length_append, r3]; simp)
      rw [c1] at t1f
      obtain ⟨tag3, B3, c4⟩ := c2.reF (h3 := g2) (i := j) (by show j < (done ++ [fl0]).length; rw [List.length_append, r3]; simp) (f := (⟨fl.b.take N, ((N : Nat) : Int)⟩ : Fl)) (Bi := bv)
        (fun k ob hk ht => by
          have : k ≠ F := fun e => ht (by rw [e]; exact t1f)
          rw [set_ne _ _ this] at hk
          exact hg2 _ _ hk) (by rw [c1]; exact hg2F) hg2B (fun q hq => ⟨.inl (hg2k q hq).1, by rw [c1]; exact (hg2k q hq).2⟩)
      -- its name
      rw [Try.underlying9]
      have hmw := (HS.le.trans (show HS.le g2 _ from hg2le) (le_refl' _)) _ _ c4.now
      simp only [hMapSet, strV, hmw]
      refine ⟨rfl, rfl, ?_⟩
      rw [show (Value.string ⟨x.1.toArray⟩) = encS x.1 from rfl, show (HV.ptr F 0) = .ptr (fid2 j) 0 from by rw [c1], nmF_put]
      have hnow : ((({ ND D.room l done j with files := (ND D.room l done j).files ++ [fl0] } : DK).setF j (⟨fl.b.take N, ((N : Nat) : Int)⟩ : Fl)).now) = numbered (l.take j) 0 := rfl
      rw [hnow]
      have hwl := with_last j hlast
      have hnext : withN (numbered (l.take j) 0) x.1 j = numbered (l.take (j + 1)) 0 := by
        rw [hwl, htk2, numbered_app]
        congr 3
        rw [List.length_take]
        omega
      have hnum : (if (nmF fid2 (numbered (l.take j) 0) (encS x.1)).isSome = true then (numbered (l.take j) 0).length else (numbered (l.take j) 0).length + 1) = (numbered (l.take (j + 1)) 0).length := by
        rw [nmF_at, Option.isSome_map, look_none.2 (fun y hy e => by have := hlast y hy; rw [e, bl_irrefl] at this; cases this), ← hnext, hwl]
        simp
      rw [hnum, hnext]
      obtain ⟨n1, n2⟩ := c4.nd
      have hfiles : (({ ND D.room l done j with files := (ND D.room l done j).files ++ [fl0] } : DK).setF j (⟨fl.b.take N, ((N : Nat) : Int)⟩ : Fl)).files = done ++ [(⟨fl.b.take N, ((N : Nat) : Int)⟩ : Fl)] := by
        show (done ++ [fl0]).set j _ = _
        rw [← r3, List.set_append_right _ _ (Nat.le_refl _), Nat.sub_self]
        rfl
      obtain ⟨tag4, c5⟩ := c4.re (h3 := g2.set mn' (.map .string (nmF fid2 (numbered (l.take (j + 1)) 0)) (numbered (l.take (j + 1)) 0).length)) (D3 := ND D.room l (done ++ [(⟨fl.b.take N, ((N : Nat) : Int)⟩ : Fl)]) (j + 1)) (mn3 := mn') (ms3 := ms') (A3 := A')
        (by rw [set_ne _ _ (Ne.symm n1)]; exact c4.at_) (set_at _ _ _) (by rw [set_ne _ _ (Ne.symm c4.ne)]; exact c4.safe) c4.ne
        (c4.acts.keep fun q ob hq hob => by rw [set_ne _ _ (c4.nA hq).2.1]; exact hob) hfiles.symm
        (fun k ob hk ht => by rw [set_ne _ _ (fun e => ht (by rw [e]; exact c4.td.2.1))]; exact hk) (.inr c4.td.2.1) (.inr c4.td.2.2) (fun q hq => ⟨.inr (c4.ta q hq).1, (c4.ta q hq).2⟩)
      have hqn : q ≠ mn' := fun e => by have := r7.now; rw [← e, r10] at this; cases this
      simp only [inc_i hlt2 (by omega)]
      refine hK2 (a4, pk4, j + 1, done ++ [(⟨fl.b.take N, ((N : Nat) : Int)⟩ : Fl)]) _ _ rfl ⟨hlt2, q2, by rw [List.length_append, r3]; rfl, by rw [r4, q5, List.append_assoc]; rfl, ?_, fun k ob hk => ?_, _, tag4, mn', ms', A', fid2, B3, c5, le_set hg2le _ _, fun k ob hk => ?_, ?_⟩ (by show l.length - (j + 1) < l.length - j; omega)
      · rw [set_ne _ _ hqn]
        exact hle11 _ _ r5
      · have hkm : k ≠ mn' := fun e => by have := r9 k ob hk; rw [e, r7.now] at this; cases this
        rw [set_ne _ _ hkm]
        exact hle11 _ _ (r6 _ _ hk)
      · have hkm : k ≠ mn' := fun e => by have := r9 k ob hk; rw [e, r7.now] at this; cases this
        rw [set_ne _ _ hkm]
        exact hg2n k ob (r6 _ _ hk) (r9 k ob hk)
      · rw [set_ne _ _ hqn]
        exact hg2n q _ r5 r10
    · obtain rfl : j = l.length := by omega
      simp only [hlt2, decide_false, hvNil, hvFld, ldd, dC, List.getElem?_cons_succ, List.getElem?_cons_zero]
      clear hK2
      refine (clone37 (r8 _ _ r7.now)).mono ?_
      rintro _ w1 ⟨q9, hq9, rfl, rfl⟩
      have hg9 : g q9 = none := none_of_le r8 hq9
      have hd9 : dd ≠ q9 := fun e => by rw [← e, r7.at_] at hg9; cases hg9
      have hm9 : mn' ≠ q9 := fun e => by rw [← e, r7.now] at hg9; cases hg9
      have hnowe : (ND D.room l done l.length).now = numbered l 0 := by show numbered (l.take l.length) 0 = _; rw [List.take_length]
      have hT1 := Turn.new r8 hq9 (.map .string (nmF fid' (ND D.room l done l.length).now) (ND D.room l done l.length).now.length)
      have hgd : (g.set q9 (.map .string (nmF fid' (ND D.room l done l.length).now) (ND D.room l done l.length).now.length)) dd = some (.cells (dC (ND D.room l done l.length) mn' ms' A')) := by rw [set_ne _ _ hd9]; exact r7.at_
      refine store1 (hT1.1 _ _ hgd) (by simp [dC]) (hc_map _) (ho_map _) rfl ?_
      have hT2 := hT1.trans (Turn.set hT1.1 hgd (.cells (dC { ND D.room l done l.length with safe := numbered l 0 } mn' q9 A')))
      obtain ⟨n1, n2⟩ := r7.nd
      obtain ⟨tag4, c5⟩ := r7.re (h3 := (g.set q9 (.map .string (nmF fid' (ND D.room l done l.length).now) (ND D.room l done l.length).now.length)).set dd (.cells (dC { ND D.room l done l.length with safe := numbered l 0 } mn' q9 A'))) (D3 := { ND D.room l done l.length with safe := numbered l 0 }) (mn3 := mn') (ms3 := q9) (A3 := A')
        (set_at _ _ _) (by rw [set_ne _ _ n1, set_ne _ _ hm9]; exact r7.now) (by rw [set_ne _ _ (Ne.symm hd9), set_at, hnowe]) hm9
        (r7.acts.keep fun q ob hq hob => by rw [set_ne _ _ (r7.nA hq).1, set_ne _ _ (fun e => by rw [e, hg9] at hob; cases hob)]; exact hob) rfl
        (fun k ob hk ht => by
          rw [set_ne _ _ (fun e => ht (by rw [e]; exact r7.td.1)), set_ne _ _ (fun e => by rw [e, hg9] at hk; cases hk)]
          exact hk) (.inr r7.td.2.1) (.inl hg9) (fun q hq => ⟨.inr (r7.ta q hq).1, (r7.ta q hq).2⟩)
      have hdone : crashF D.files l picks.tail = done := by
        rw [r4, List.drop_length]
        simp [crashF]
      rw [hdone]
      refine ⟨dd, _, rfl, c5.ps, hT2.1, fun k ob hk => (hT2.2 k ob (r9 k ob hk) (r6 _ _ hk)).1, fun k ob hk => (hT2.2 k ob (r9 k ob hk) (r6 _ _ hk)).2⟩
end
end Go.Proofs.Ythfoanmokcepcaa.DS
end
section
namespace Go.Proofs.Ythfoanmokcepcaa.DS
open Go.Proofs.Ythfoanmokcepcaa.H Go.Proofs.Ythfoanmokcepcaa.AS Go.Proofs.Ythfoanmokcepcaa.X0
set_option linter.unusedVariables false
set_option linter.unusedSimpArgs false
set_option maxRecDepth 100000
theorem crashF_len (files : List Fl) : ∀ (l : List Nm) (pk : List Int), (crashF files l pk).length = l.length
  | [], _ => rfl
  | x :: l, pk => by
    unfold crashF
    simp only
    split
    · rw [List.length_cons, crashF_len files l, List.length_cons]
    · rw [List.length_cons, crashF_len files l, List.length_cons]
theorem crashF_fl {K : Nat} {files : List Fl} (hf : ∀ f ∈ files, f.b.length ≤ K ∧ 0 ≤ f.safe ∧ f.safe ≤ f.b.length) : ∀ (l : List Nm) (pk : List Int), (∀ x ∈ l, x.2 < files.length) → ∀ f ∈ crashF files l pk, f.b.length ≤ K ∧ 0 ≤ f.safe ∧ f.safe ≤ f.b.length
  | [], _, _, f, h => by cases h
  | x :: l, pk, hl, f, h => by
    have hx := hf _ (getD_memD fl0 (hl x List.mem_cons_self))
    have ih := fun pk => crashF_fl hf l pk fun y hy => hl y (List.mem_cons_of_mem _ hy)
    unfold crashF at h
    simp only at h
    generalize files.getD x.2 fl0 = fl at *
    split at h
    · rename_i hlt
      obtain ⟨p1, p2⟩ := part_bd pk (n := (fl.b.length : Int) - fl.safe) (by omega)
      rcases List.mem_cons.1 h with rfl | h
      · simp only [List.length_take]
        omega
      · exact ih _ f h
    · rcases List.mem_cons.1 h with rfl | h
      · simp only [List.length_take]
        omega
      · exact ih _ f h
section
variable {K : Nat} {D : DK}
theorem Wf.crash (h : Wf K D) (hc : Ch D) (picks : List Int) (hk : 2 * K ≤ 1000000) : Wf (2 * K) (D.crash picks) := by
  have hl : ∀ (p : Nat), ((D.acts.take p).foldl applyA D.safe).length ≤ 2 * K := fun p => by
    have h1 := len_foldl (D.acts.take p) D.safe
    have h2 : (D.acts.take p).length ≤ D.acts.length := by rw [List.length_take]; omega
    have h3 := h.nsf
    have h4 := h.na
    omega
  unfold DK.crash
  generalize (part picks D.acts.length).toNat = p
  have hl' := hl p
  have hv := hc.val.take p
  have hs := srt_foldl h.ss (D.acts.take p)
  have hi := mem_foldl hv h.ns
  have hn := nl_foldl hv h.sl
  generalize (D.acts.take p).foldl applyA D.safe = l at *
  have hsn := srt_names hs (numbered_names l 0)
  have hnn : ∀ x ∈ numbered l 0, x.2 < (crashF D.files l picks.tail).length := fun x hx => by
    have := numbered_lt l 0 x hx
    rw [crashF_len]; omega
  have hnl : ∀ x ∈ numbered l 0, x.1.length ≤ 100 := fun x hx => by
    have : x.1 ∈ l.map Prod.fst := by rw [← numbered_names l 0]; exact List.mem_map_of_mem hx
    obtain ⟨y, hy, e⟩ := List.mem_map.1 this
    rw [← e]; exact hn y hy
  have hff := crashF_fl h.fl l picks.tail hi
  refine ⟨hsn, hsn, hnn, hnn, h.room, fun f hf => ?_, by show (crashF D.files l picks.tail).length ≤ _; rw [crashF_len]; exact hl', by show (numbered l 0).length ≤ _; rw [numbered_len]; exact hl', Nat.zero_le _, ⟨by show -((2 * K : Nat) : Int) ≤ 0; omega, by show (0 : Int) ≤ _; omega⟩, ⟨Int.le_refl 0, by show (0 : Int) ≤ _; omega⟩, hk, hnl, hnl, by show (numbered l 0).length ≤ _; rw [numbered_len]; exact hl'⟩
  obtain ⟨k1, k2⟩ := hff f hf
  exact ⟨by omega, k2⟩
theorem Ch.crash (D : DK) (picks : List Int) : Ch (D.crash picks) := ⟨rfl, trivial⟩
theorem wf_new {room : Int} (h : 0 ≤ room ∧ room ≤ 1099511627776) : Wf 0 (DK.new room) :=
  ⟨List.Pairwise.nil, List.Pairwise.nil, (by intro x hx; cases hx), (by intro x hx; cases hx), h, (by intro x hx; cases hx), Nat.le_refl _, Nat.le_refl _, Nat.le_refl _, ⟨Int.le_refl 0, by show (0 : Int) ≤ _; omega⟩, ⟨Int.le_refl 0, Int.le_refl 0⟩, by omega, (by intro x hx; cases hx), (by intro x hx; cases hx), Nat.le_refl _⟩
theorem ch_new (room : Int) : Ch (DK.new room) := ⟨rfl, trivial⟩
end
/-- A disk and one that came of it, side by side. -/
theorem Turn.side {s h t h' g : HS} (hT : Turn s h t h') (hg : HS.le g s) (hd : ∀ k ob, g k = some ob → h k = none) : HS.le g t ∧ ∀ k ob, g k = some ob → h' k = none := hT.other hg hd
theorem apart_sym {g h s : HS} (hh : HS.le h s) (hd : ∀ k ob, s k = some ob → g k = none) : ∀ k ob, g k = some ob → h k = none := fun k ob hk => by
  cases e : h k with
  | none => rfl
  | some o => rw [hd k o (hh _ _ e)] at hk; cases hk
theorem awake11 (s : HS) : HC Try.prog 11 [] s (fun v t => v = .lit (.bool true)) := by
  refine HC11 ?_
  unfold c11
  refine (new12 s).mono ?_
  intro v s1 hv
  rw [if_pos (by omega)] at hv
  obtain ⟨d, h0, rfl, hP0, hl0, hle0, -⟩ := hv
  simp only [vExtract, List.getElem?_cons_succ, List.getElem?_cons_zero, bindO]
  refine (new12 s1).mono ?_
  intro v s2 hv
  rw [if_neg (by omega)] at hv
  obtain ⟨rfl, rfl⟩ := hv
  simp only [vExtract, List.getElem?_cons_succ, List.getElem?_cons_zero]
  refine Join.of (fun xs t => t = s2 ∧ xs = [.lit (.bool false)]) ?_ ?_
  rotate_left
  · intro K9 hK9
    simp only [neq28, decide_true, Bool.not_true, hcond, eqp27]
    exact hK9 _ _ ⟨rfl, rfl⟩
  rintro _ t ⟨rfl, rfl⟩
  simp only [List.headD_cons, hcond]
  refine hBS_in (cs := bl [97, 98]) rfl fun X hX => ?_
  have hle1 := le_set_new (.cells (bl [97, 98])) (le_refl' t) hX
  have hsX : (t.set X (.cells (bl [97, 98]))) X = some (.cells (bl [97, 98])) := set_at _ _ _
  unfold hMark
  simp only [hsX]
  refine ⟨by omega, ?_⟩
  have hx0 : h0 X = none := none_of_le hl0 hX
  have hl1 := HS.le.trans hl0 hle1
  generalize t.set X (.cells (bl [97, 98])) = t1 at *
  have w0 := wf_new (room := 10) (by omega)
  have k0 := ch_new 10
  rw [show (HV.lit (.string { data := #[120] })) = strV [120] from rfl]
  refine (append13 hP0 hl1 w0 k0 [120] (b := [97, 98]) (.inr (.inr ⟨X, _, rfl, hsX, hx0⟩)) (by decide) (by omega)).mono ?_
  rintro _ t2 ⟨rfl, h1, hP1, hT1⟩
  have w1 := w0.append [120] [97, 98] (by simp)
  have k1 := k0.append [120] [97, 98]
  have e1 : ((DK.new 10).append [120] [97, 98]).2 = 0 := by decide
  rw [e1]
  refine (crash16 hP1 hT1.1 w1 k1 (a1 := nilV) (picks := []) (.inr ⟨rfl, rfl⟩)).mono ?_
  rintro _ t3 ⟨c1, g1, rfl, hc1, hgl1, hle3, hd1⟩
  have hT3 := hT1.trans (Turn.junk hT1.1 hle3)
  have hs1 := apart_sym hT1.1 hd1
  refine (sync14 hP1 hT3.1 w1 [120]).mono ?_
  rintro _ t4 ⟨-, h2, hP2, hT4⟩
  obtain ⟨hgl2, hs2⟩ := hT4.side hgl1 hs1
  have w2 := w1.sync [120] (by simp)
  have k2 := k1.sync [120]
  refine (syncDir15 hP2 hT4.1 w2).mono ?_
  rintro _ t5 ⟨-, h3, hP3, hT5⟩
  obtain ⟨hgl3, hs3⟩ := hT5.side hgl2 hs2
  have w3 := w2.syncDir (by simp)
  have k3 := k2.syncDir
  refine (crash16 hP3 hT5.1 w3 k3 (a1 := nilV) (picks := []) (.inr ⟨rfl, rfl⟩)).mono ?_
  rintro _ t6 ⟨c2, g2, rfl, hc2, hgl4, hle6, hd2⟩
  have hT6 := Turn.junk hT5.1 hle6
  have hs4 := apart_sym hT5.1 hd2
  refine Join.of (fun xs t => t = t6 ∧ xs = [.lit (.bool false)]) ?_ ?_
  rotate_left
  · intro K29 hK29
    simp only [eqp27]
    exact hK29 _ _ ⟨rfl, rfl⟩
  rintro _ t ⟨rfl, rfl⟩
  simp only [List.headD_cons, eql28, decide_true]
  unfold hMake
  simp only
  refine ⟨by omega, by omega, by omega, by decide, rfl, rfl, fun Y hY => ?_⟩
  rw [show zcells (.int .u8 0) ((9 : Int).toNat * 1) = bl [0, 0, 0, 0, 0, 0, 0, 0, 0] from rfl]
  have hle7 := le_set_new (.cells (bl [0, 0, 0, 0, 0, 0, 0, 0, 0])) (le_refl' t) hY
  have hT7 := hT6.trans (Turn.junk hT6.1 hle7)
  have hsY : (t.set Y (.cells (bl [0, 0, 0, 0, 0, 0, 0, 0, 0]))) Y = some (.cells (bl [0, 0, 0, 0, 0, 0, 0, 0, 0])) := set_at _ _ _
  have hy3 : h3 Y = none := none_of_le hT6.1 hY
  have hgl5 : HS.le g1 (t.set Y (.cells (bl [0, 0, 0, 0, 0, 0, 0, 0, 0]))) := HS.le.trans (HS.le.trans hgl3 hle6) hle7
  have hgl6 : HS.le g2 (t.set Y (.cells (bl [0, 0, 0, 0, 0, 0, 0, 0, 0]))) := HS.le.trans hgl4 hle7
  generalize t.set Y (.cells (bl [0, 0, 0, 0, 0, 0, 0, 0, 0])) = t7 at *
  refine (append13 hP3 hT7.1 w3 k3 [120] (b := [0, 0, 0, 0, 0, 0, 0, 0, 0]) (.inr (.inr ⟨Y, _, rfl, hsY, hy3⟩)) (by decide) (by simp)).mono ?_
  rintro _ t8 ⟨rfl, h4, hP4, hT8⟩
  obtain ⟨hgl7, -⟩ := hT8.side hgl5 hs3
  obtain ⟨hgl8, -⟩ := hT8.side hgl6 hs4
  have e2 : ((((((DK.new 10).append [120] [97, 98]).1.sync [120]).1.syncDir).1).append [120] [0, 0, 0, 0, 0, 0, 0, 0, 0]).2 = 4 := by decide
  rw [e2]
  simp only [eql28, decide_true]
  refine (size19 hc1 hgl7 (w1.crash k1 [] (by simp)) [120]).mono ?_
  rintro _ t9 ⟨rfl, rfl⟩
  have e3 : look ((((DK.new 10).append [120] [97, 98]).1.crash []).now) [120] = none := by decide
  rw [e3]
  simp only [eql3, decide_true]
  refine (size19 hc2 hgl8 (w3.crash k3 [] (by simp)) [120]).mono ?_
  rintro _ t10 ⟨rfl, rfl⟩
  have e4 : look (((((((DK.new 10).append [120] [97, 98]).1.sync [120]).1.syncDir).1).crash []).now) [120] = some 0 := by decide
  have e5 : (((((((DK.new 10).append [120] [97, 98]).1.sync [120]).1.syncDir).1).crash []).files.getD 0 fl0).b = [97, 98] := by decide
  rw [e4]
  simp only [e5]
  rfl
end Go.Proofs.Ythfoanmokcepcaa.DS
end
section
namespace Go.Proofs.Ythfoanmokcepcaa.DS
open Go.Proofs.Ythfoanmokcepcaa.H Go.Proofs.Ythfoanmokcepcaa.AS Go.Proofs.Ythfoanmokcepcaa.X0
set_option linter.unusedVariables false
set_option linter.unusedSimpArgs false
set_option maxRecDepth 100000
section
variable {D : DK}
theorem append_new {n : By} {b : List Int} (he : D.err [n] = 0) (hr : ¬ D.room - D.used < (b.length : Int)) (hk : look D.now n = none) : D.append n b = (({ D.ask with files := D.files ++ [fl0] }.name ⟨1, n, [], D.files.length⟩).setF D.files.length ⟨b, 0⟩, 0) := by
  unfold DK.append
  rw [if_neg (by rw [he]; exact fun h => h rfl), if_neg hr, hk]
end
/-- Bytes, as a text. -/
def toU (b : List Int) : By := b.map fun n => UInt8.ofNat n.toNat
theorem bytesOf_bl : ∀ b : List Int, bytesOf (bl b) = some (toU b)
  | [] => rfl
  | x :: b => by
    have ih := bytesOf_bl b
    unfold bytesOf bl toU at *
    simp only [List.map_cons, List.mapM_cons, ih]
    rfl
theorem toStr {s : HS} {x : HV} {b : List Int} (hx : lcells s 1 x = some (bl b)) (hs : isStrHV x = false) : (if isStrHV x = true then none else vToStr s x) = some (strV (toU b)) := by
  rw [if_neg (by rw [hs]; exact Bool.false_ne_true)]
  unfold vToStr
  rw [hx, Option.bind_some, bytesOf_bl]
  rfl
theorem toStr_by (s : HS) (b : List Int) : (if isStrHV (byV b) = true then none else vToStr s (byV b)) = some (strV (toU b)) := toStr (by simp [lcells, byV]) rfl
theorem toStr_rv {s : HS} {x : HV} {b : List Int} (hx : RV x b) : (if isStrHV x = true then none else vToStr s x) = some (strV (toU b)) := by
  rcases hx with rfl | ⟨rfl, rfl⟩
  · exact toStr_by s b
  · exact toStr rfl rfl
/-- The end of a law's act: its code, and what it leaves. -/
theorem did_eq {s h t : HS} {d : Nat} {r : DK × Int} {D' : DK} {e : Int} {v : HV} (hd : Did2 s h t d r v) (he : r = (D', e)) : v = .lit (.int .i64 e) ∧ ∃ h', PS h' d D' ∧ Turn s h t h' := by
  subst he
  exact hd
end Go.Proofs.Ythfoanmokcepcaa.DS
end
section
namespace Go.Proofs.Ythfoanmokcepcaa.DS
open Go.Proofs.Ythfoanmokcepcaa.H Go.Proofs.Ythfoanmokcepcaa.AS Go.Proofs.Ythfoanmokcepcaa.X0
set_option linter.unusedVariables false
set_option linter.unusedSimpArgs false
set_option maxRecDepth 100000
theorem RV.len {x : HV} {l : List Int} (h : RV x l) (e : Nat) (u : HS) : vLenT (some (.slice e)) u x = some (.lit (.int .i64 ((l.length : Nat) : Int))) := by
  rcases h with rfl | ⟨rfl, rfl⟩ <;> rfl
end Go.Proofs.Ythfoanmokcepcaa.DS
end
section
namespace Go.Proofs.Ythfoanmokcepcaa.DS
open Go.Proofs.Ythfoanmokcepcaa.H Go.Proofs.Ythfoanmokcepcaa.AS Go.Proofs.Ythfoanmokcepcaa.X0
set_option linter.unusedVariables false
set_option linter.unusedSimpArgs false
set_option maxRecDepth 100000
/-- A disk of one's own. -/
def Own (s : HS) (d : Nat) (D : DK) (K : Nat) : Prop := ∃ h, PS h d D ∧ HS.le h s ∧ Wf K D ∧ Ch D
section
variable {s : HS} {d K : Nat} {D D' : DK} {e : Int} {k : HV → HS → Prop}
theorem Own.up (o : Own s d D K) {t : HS} (hle : HS.le s t) : Own t d D K := let ⟨h, a, b, c⟩ := o; ⟨h, a, HS.le.trans b hle, c⟩
theorem Own.append (o : Own s d D K) (a : By) {x : HV} {b : List Int} (hx : (∃ f, x = .list 1 b.length (bl b) f) ∨ x = nilV ∧ b = []) (hb : b.length ≤ 2000) (hK : K + b.length + 3 ≤ 100000) (he : D.append a b = (D', e)) (hk : ∀ t, Own t d D' (K + b.length + 3) → k (.lit (.int .i64 e)) t) : HC Try.prog 13 [.ptr d 0, strV a, x] s k := by
  obtain ⟨h, h1, h2, h3, h4⟩ := o
  refine (append13 h1 h2 h3 h4 a (b := b) (hx.elim .inl fun h => .inr (.inl h)) (by omega) (by omega)).mono ?_
  intro v t hv
  obtain ⟨rfl, h', hP, hT⟩ := did_eq hv he
  have w := h3.append a b (by omega)
  have c := h4.append a b
  rw [he] at w c
  exact hk t ⟨h', hP, hT.1, w, c⟩
theorem Own.view (o : Own s d D K) (a : By) {b : List Int} (hb : b.length ≤ 2000) (hK : K + b.length + 3 ≤ 100000) (he : D.append a b = (D', e)) (hk : ∀ t, Own t d D' (K + b.length + 3) → k (.lit (.int .i64 e)) t) {X : Nat} (hX : s X = none) (f : Bool) : HC Try.prog 13 [.ptr d 0, strV a, .view X 0 1 b.length f] (s.set X (.cells (bl b))) k := by
  obtain ⟨h, h1, h2, h3, h4⟩ := o
  refine (append13 h1 (HS.le.trans h2 (le_set_new _ (le_refl' s) hX)) h3 h4 a (b := b) (.inr (.inr ⟨X, f, rfl, set_at _ _ _, none_of_le h2 hX⟩)) (by omega) (by omega)).mono ?_
  intro v t hv
  obtain ⟨rfl, h', hP, hT⟩ := did_eq hv he
  have w := h3.append a b (by omega)
  have c := h4.append a b
  rw [he] at w c
  exact hk t ⟨h', hP, hT.1, w, c⟩
theorem Own.x (o : Own s d D K) (a : By) (hK : K + 4 ≤ 100000) (he : D.append a [120] = (D', e)) (hk : ∀ t, Own t d D' (K + 4) → k (.lit (.int .i64 e)) t) : hBS s 1 1 [.lit (.int .u8 0)] [(0, (.lit (.int .u8 120)))] (fun x57 s58 => hMark s58 x57 (fun x59 s60 => HC Try.prog 13 [.ptr d 0, strV a, x59] s60 k)) := by
  refine hBS_in (cs := bl [120]) rfl fun X hX => ?_
  unfold hMark
  simp only [set_at]
  exact ⟨by omega, o.view a (b := [120]) (by decide) (by show K + 1 + 3 ≤ _; omega) he hk hX true⟩
theorem Own.used (o : Own s d D K) {n : Int} (he : D.used = n) (hk : ∀ t, Own t d D K → k (.lit (.int .i64 n)) t) : HC Try.prog 21 [.ptr d 0] s k := by
  obtain ⟨h, h1, h2, h3, h4⟩ := o
  have h1' := h1
  obtain ⟨_, _, _, _, _, _, hP⟩ := h1'
  refine (used21 hP h2 h3).mono ?_
  rintro _ t ⟨rfl, hle⟩
  rw [he]
  exact hk t ⟨h, h1, HS.le.trans h2 hle, h3, h4⟩
end
end Go.Proofs.Ythfoanmokcepcaa.DS
end
section
namespace Go.Proofs.Ythfoanmokcepcaa.DS
open Go.Proofs.Ythfoanmokcepcaa.H Go.Proofs.Ythfoanmokcepcaa.AS Go.Proofs.Ythfoanmokcepcaa.X0
set_option linter.unusedVariables false
set_option linter.unusedSimpArgs false
set_option maxRecDepth 100000
theorem asked34n (a1 : HV) (s : HS) : HC Try.prog 34 [nilP, a1] s (fun v t => v = .lit (.int .i64 7) ∧ t = s) := by
  refine HC34 ?_
  unfold c34 nilP
  refine Join.of (fun xs t => t = s ∧ xs = [.lit (.bool true)]) ?_ ?_
  · rintro _ t ⟨rfl, rfl⟩
    simp only [List.headD_cons, hcond]
    exact ⟨by trivial, by trivial⟩
  · intro K1 hK1
    simp only [eqn27, bindO, hcond]
    exact hK1 _ _ ⟨rfl, rfl⟩
theorem append13n (n : By) (x : HV) (s : HS) : HC Try.prog 13 [nilP, strV n, x] s (fun v t => v = .lit (.int .i64 7) ∧ HS.le s t) := by
  refine HC13 ?_
  unfold c13
  refine hBS_lit (vs := strC n) rfl rfl rfl fun X hX => ?_
  refine (asked34n _ _).mono ?_
  rintro _ t ⟨rfl, rfl⟩
  simp only [bindO, neq28, show decide ((7 : Int) = 0) = false from rfl, Bool.not_false, hcond]
  exact ⟨by trivial, le_set_new _ (le_refl' s) hX⟩
theorem sync14n (n : By) (s : HS) : HC Try.prog 14 [nilP, strV n] s (fun v t => v = .lit (.int .i64 7) ∧ HS.le s t) := by
  refine HC14 ?_
  unfold c14
  have h36 : HC Try.prog 36 [nilP, strV n, nilV] s (fun v t => v = .tup [nilP, .lit (.int .i64 7)] ∧ HS.le s t) := by
    refine HC36 ?_
    unfold c36
    refine hBS_lit (vs := strC n) rfl rfl rfl fun X hX => ?_
    have hle1 := le_set_new (.cells (strC n)) (le_refl' s) hX
    have hXl : lcells (s.set X (.cells (strC n))) 1 (.view X 0 1 1 true) = some (strC n) := lit_cells (set_at _ _ _) rfl
    generalize s.set X (.cells (strC n)) = s1 at *
    refine app_names (h := emp0) (ns := []) (.inl ⟨rfl, rfl⟩) hXl hle1 (fun k o hk => by cases hk) (by simp) fun a3 s3 h3 hle => ?_
    refine (asked34n _ _).mono ?_
    rintro _ t ⟨rfl, rfl⟩
    simp only [bindO, neq28, show decide ((7 : Int) = 0) = false from rfl, Bool.not_false, hcond]
    exact ⟨by rfl, hle⟩
  refine h36.mono ?_
  rintro _ t ⟨rfl, hle⟩
  simp only [vExtract, List.getElem?_cons_succ, List.getElem?_cons_zero, bindO]
  refine Join.of (fun _ u => u = t) ?_ ?_
  · rintro _ u rfl
    exact ⟨by trivial, hle⟩
  · intro K hK
    simp only [eql28, show decide ((7 : Int) = 0) = false from rfl, hcond]
    exact hK _ _ rfl
theorem syncDir15n (s : HS) : HC Try.prog 15 [nilP] s (fun v t => v = .lit (.int .i64 7) ∧ t = s) := by
  refine HC15 ?_
  unfold c15
  refine (asked34n _ _).mono ?_
  rintro _ t ⟨rfl, rfl⟩
  refine Join.of (fun _ u => u = t) ?_ ?_
  · rintro _ u rfl
    exact ⟨by trivial, by trivial⟩
  · intro K hK
    simp only [eql28, show decide ((7 : Int) = 0) = false from rfl, hcond, bindO]
    exact hK _ _ rfl
theorem used21n (s : HS) : HC Try.prog 21 [nilP] s (fun v t => v = .lit (.int .i64 0) ∧ t = s) := by
  refine HC21 ?_
  unfold c21 nilP
  simp only [eqn27, bindO, hcond]
  exact ⟨by trivial, by trivial⟩
theorem ops22n (s : HS) : HC Try.prog 22 [nilP] s (fun v t => v = .lit (.int .i64 0) ∧ t = s) := by
  refine HC22 ?_
  unfold c22 nilP
  simp only [eqn27, bindO, hcond]
  exact ⟨by trivial, by trivial⟩
theorem crash16n (a : HV) (s : HS) : HC Try.prog 16 [nilP, a] s (fun v t => v = nilP ∧ t = s) := by
  refine HC16 ?_
  unfold c16 nilP
  refine Join.of (fun xs t => t = s ∧ xs = [.lit (.bool true)]) ?_ ?_
  · rintro _ t ⟨rfl, rfl⟩
    simp only [List.headD_cons, hcond]
    exact ⟨by trivial, by trivial⟩
  · intro K1 hK1
    simp only [eqn27, bindO, hcond]
    exact hK1 _ _ ⟨rfl, rfl⟩
section
variable {s h : HS} {d K : Nat} {D : DK}
/-- What was read is its reader's own. -/
theorem read17O (hP : PS h d D) (hl : HS.le h s) (hw : Wf K D) {n : By} {i : Nat} (hk : look D.now n = some i) (hne : (D.files.getD i fl0).b ≠ []) : HC Try.prog 17 [.ptr d 0, strV n] s (fun v t => ∃ q f, v = .tup [.view q 0 1 (D.files.getD i fl0).b.length f, .lit (.int .i64 0)] ∧ t q = some (.cells (bl (D.files.getD i fl0).b)) ∧ s q = none ∧ HS.le s t) := by
  refine HC17 ?_
  unfold c17
  refine (size19 hP hl hw n).mono ?_
  rintro _ t ⟨rfl, rfl⟩
  obtain ⟨tag, mn, ms, A, fid, B, hP⟩ := hP
  have ld1 := fun k => hP.ld hl k
  have hm := hl _ _ hP.now
  have hi := hw.look hk
  obtain ⟨f1, f2⟩ := hP.file i hi
  have hbi := (hw.at_ hi).1
  have hkk := hw.k
  have hn0 : ¬ (((D.files.getD i fl0).b.length : Int) < 0) := by omega
  simp only [hk, lss_n, bindO, hn0, decide_false, hcond, hvNil, hvFld, ld1, dC, List.getElem?_cons_succ, List.getElem?_cons_zero, lookN hm, ld_at (hl _ _ f1)]
  refine (clone42O (f2.any hl) (by omega)).mono ?_
  rintro x u ⟨hle, ⟨-, e⟩ | ⟨q, f, rfl, h1, h2⟩⟩
  · exact absurd e hne
  · exact ⟨q, f, rfl, h1, h2, hle⟩
/-- A copy, that is one's own. -/
theorem own_copy {s : HS} {b : List Int} {k : HV → HS → Prop} (hb : b ≠ []) (hn : b.length ≤ 1000000) (hk : ∀ q f t, s q = none → HS.le s t → t q = some (.cells (bl b)) → k (.view q 0 1 b.length f) t) : hBS s 1 0 [] [] (fun x t => hAppend t 1 1 x (byV b) k) := by
  refine hBS0 fun Y hY => ?_
  refine app_empty (b := s) (k := b.length) (le_set_new _ (le_refl' s) hY) hY (set_at _ _ _) (by simp [lcells, byV]; rfl) rfl (by rw [bl_len, Nat.mul_one]) ⟨by omega, by omega⟩ ?_
  intro A' t' g1 g2
  rcases g1 with (⟨rfl, -, e⟩ | ⟨q, f, k1, k2, k3, -, -⟩) | ⟨e, e2, q, k1, k2, k3⟩
  · exact absurd (List.length_eq_zero_iff.1 e) hb
  · rw [k2]; exact hk q f t' k1 g2 k3
  · exact absurd (List.length_eq_zero_iff.1 e) hb
end
theorem nothing_law (n : By) (b : List Int) (s : HS) : HC Try.prog 5 [strV n, byV b] s (fun v t => v = .lit (.bool true)) := by
  refine HC5 ?_
  unfold c5
  have la : ∀ u (x : List Int), vLenT (Try.prog.underlying 22) u (byV x) = some (.lit (.int .i64 ((x.length : Nat) : Int))) := fun u x => rfl
  refine Join.of (fun xs t => t = s ∧ ∃ r : Bool, xs = [.lit (.bool r)] ∧ (r = false → b ≠ [] ∧ b.length ≤ 300)) ?_ ?_
  rotate_left
  · intro K1 hK1
    simp only [lenS, la, bindO, gtr_n, eql3]
    by_cases h1 : (200 : Int) < (n.length : Int)
    · simp only [h1, decide_true, hcond]
      exact hK1 _ _ ⟨rfl, true, rfl, fun h => by cases h⟩
    simp only [h1, decide_false, hcond]
    by_cases h2 : ((b.length : Int) = 0)
    · simp only [h2, decide_true]
      exact hK1 _ _ ⟨rfl, true, rfl, fun h => by cases h⟩
    simp only [h2, decide_false]
    exact hK1 _ _ ⟨rfl, _, rfl, fun h => ⟨fun e => h2 (by rw [e]; rfl), by
      have := of_decide_eq_false h
      omega⟩⟩
  rintro _ t ⟨rfl, r, rfl, hr⟩
  simp only [List.headD_cons]
  cases r with
  | true =>
    simp only [hcond]
    exact awake11 t
  | false =>
  obtain ⟨hb, hb3⟩ := hr rfl
  clear hr
  simp only [hcond]
  refine (read17n n t).mono ?_
  rintro _ t0 ⟨rfl, rfl⟩
  simp only [vExtract, List.getElem?_cons_succ, List.getElem?_cons_zero, bindO]
  refine (new12 t0).mono ?_
  intro v s1 hv
  rw [if_pos (by omega)] at hv
  obtain ⟨d, h0, rfl, hP0, hl0, hle0, -⟩ := hv
  simp only [vExtract, List.getElem?_cons_succ, List.getElem?_cons_zero]
  refine Join.of (fun xs u => HS.le s1 u ∧ xs = [.lit (.bool false)]) ?_ ?_
  rotate_left
  · intro K20 hK20
    refine (append13n [120] (byV b) s1).mono ?_
    rintro _ u1 ⟨rfl, g1⟩
    simp only [neq28, decide_true, Bool.not_true, hcond]
    refine (sync14n [120] u1).mono ?_
    rintro _ u2 ⟨rfl, g2⟩
    simp only [neq28, decide_true, Bool.not_true]
    refine (syncDir15n u2).mono ?_
    rintro _ u3 ⟨rfl, rfl⟩
    simp only [neq28, decide_true, Bool.not_true]
    refine (size19n n u3).mono ?_
    rintro _ u4 ⟨rfl, rfl⟩
    simp only [neq3, decide_true, Bool.not_true]
    refine (names20n u4).mono ?_
    rintro _ u5 ⟨rfl, rfl⟩
    simp only [show vLenT (Try.prog.underlying 41) u5 nilV = some (.lit (.int .i64 0)) from rfl, neq3, decide_true, Bool.not_true]
    refine (used21n u5).mono ?_
    rintro _ u6 ⟨rfl, rfl⟩
    simp only [neq3, decide_true, Bool.not_true]
    refine (ops22n u6).mono ?_
    rintro _ u7 ⟨rfl, rfl⟩
    simp only [neq3, decide_true, Bool.not_true]
    refine (crash16n nilV u7).mono ?_
    rintro _ u8 ⟨rfl, rfl⟩
    simp only [show vCmp (Try.prog.underlying 27) .neq nilP (.lit (.pointer none)) = some (.lit (.bool false)) from rfl, eqp27]
    exact hK20 _ _ ⟨HS.le.trans g1 g2, rfl⟩
  rintro _ u ⟨hle1, rfl⟩
  simp only [List.headD_cons]
  have hl1 := HS.le.trans hl0 hle1
  refine own_copy hb (by omega) fun X f t1 hX hle2 hX1 => ?_
  have w0 := wf_new (room := 1000) (by omega)
  have k0 := ch_new 1000
  have hX0 : h0 X = none := none_of_le hl1 hX
  have q1 : (DK.new 1000).append [120] b = (⟨1000, [⟨b, 0⟩], [([120], 0)], [], [⟨1, [120], [], 0⟩], false, -1, false, 1⟩, 0) := by
    rw [append_new (by decide) (by show ¬ (1000 - 0 : Int) < _; omega) (by decide)]
    rfl
  have w1 := w0.append [120] b (by omega)
  rw [q1] at w1
  refine (append13 hP0 (HS.le.trans hl1 hle2) w0 k0 [120] (b := b) (.inr (.inr ⟨X, f, rfl, hX1, hX0⟩)) (by omega) (by omega)).mono ?_
  intro v t2 hv
  obtain ⟨rfl, h1, hP1, hT1⟩ := did_eq hv q1
  obtain ⟨hX2, hXh⟩ := hT1.2 X _ hX0 hX1
  obtain ⟨y, b', rfl⟩ := List.exists_cons_of_ne_nil hb
  have ix : ∀ (g : Nat) f, vIdx 1 (.view g 0 1 (y :: b').length f) (.lit (.int .i64 0)) = some (.ptr g 0) := fun g f => by
    have := idx_view (q := g) (off := 0) (sz := 1) (n := (y :: b').length) (f := f) (i := 0) .i64 (by simp)
    exact this
  simp only [ix, ld_at hX2]
  rw [show (bl (y :: b'))[0]? = some (.lit (.int .u8 y)) from rfl]
  simp only [show ∀ z, vBin .add (.lit (.int .u8 z)) (.lit (.int .u8 1)) = some (.lit (.int .u8 (IntKind.u8.wrap (z + 1)))) from fun z => rfl]
  refine store1 hX2 (by rw [bl_len]; simp) rfl rfl rfl ?_
  have hl3 : HS.le h1 (t2.set X (.cells ((bl (y :: b')).set 0 (.lit (.int .u8 (IntKind.u8.wrap (y + 1))))))) := fun j o hj => by
    rw [set_ne _ _ (fun e => by rw [e, hXh] at hj; cases hj)]
    exact hT1.1 _ _ hj
  generalize t2.set X (.cells ((bl (y :: b')).set 0 (.lit (.int .u8 (IntKind.u8.wrap (y + 1)))))) = t3 at *
  refine (read17O hP1 hl3 w1 (n := [120]) (i := 0) rfl hb).mono ?_
  rintro _ t4 ⟨q, f4, rfl, hq, hq3, hle4⟩
  have hs4 := toStr (s := t4) (x := .view q 0 1 (y :: b').length f4) (b := y :: b') (by
    have h9 : (y :: b').length = (bl (y :: b')).length := (bl_len _).symm
    have : t4 q = some (.cells (bl (y :: b'))) := hq
    simp only [lcells, this]
    rw [List.drop_zero, Nat.mul_one, h9, List.take_length, if_pos (by simp)]) rfl
  have hy4 := fun u => toStr_by u (y :: b')
  simp only [vExtract, List.getElem?_cons_succ, List.getElem?_cons_zero]
  erw [hs4]
  simp only [hy4]
  rw [show vCmp (Try.prog.underlying 9) .neq (strV (toU (y :: b'))) (strV (toU (y :: b'))) = some (.lit (.bool false)) from by simp only [neq_s, decide_true, Bool.not_true]]
  have ix2 := ix q f4
  have hq' : t4 q = some (.cells (bl (y :: b'))) := hq
  simp only
  erw [ix2]
  simp only [ld_at hq']
  rw [show (bl (y :: b'))[0]? = some (.lit (.int .u8 y)) from rfl]
  simp only [show ∀ z, vBin .add (.lit (.int .u8 z)) (.lit (.int .u8 1)) = some (.lit (.int .u8 (IntKind.u8.wrap (z + 1)))) from fun z => rfl]
  refine store1 hq' (by rw [bl_len]; simp) rfl rfl rfl ?_
  have hqh : h1 q = none := none_of_le hl3 hq3
  have hl5 : HS.le h1 (t4.set q (.cells ((bl (y :: b')).set 0 (.lit (.int .u8 (IntKind.u8.wrap (y + 1))))))) := fun j o hj => by
    rw [set_ne _ _ (fun e => by rw [e, hqh] at hj; cases hj)]
    exact hle4 _ _ (hl3 _ _ hj)
  generalize t4.set q (.cells ((bl (y :: b')).set 0 (.lit (.int .u8 (IntKind.u8.wrap (y + 1)))))) = t5 at *
  refine (read17 hP1 hl5 w1 [120]).mono ?_
  rintro _ t6 ⟨x, rfl, hx, rfl⟩
  have hx' : RV x (y :: b') := hx
  simp only [vExtract, List.getElem?_cons_succ, List.getElem?_cons_zero, toStr_rv hx', hy4, eql_s, decide_true]
  exact awake11 _
end Go.Proofs.Ythfoanmokcepcaa.DS
end
section
set_option linter.unusedVariables false
set_option linter.unusedSimpArgs false
namespace Go.Proofs.YthfoanmokcepcaaW.PrintWords
open Go.RowKit
/-- The world is the old one, some orders having been drawn. -/
structure Drawn0 (w w' : World) : Prop where mk :: (out : ∃ n, w' = w.drewN n)
theorem Drawn0.refl (w : World) : Drawn0 w w := ⟨⟨0, rfl⟩⟩
theorem Drawn0.step {w w' : World} (h : Drawn0 w w') (n : Nat) : Drawn0 w (w'.drewN n) := by
  obtain ⟨m, rfl⟩ := h
  exact ⟨⟨m + n, World.drewN_drewN ..⟩⟩
theorem Drawn0.grown {w w' : World} (h : Drawn0 w w') : Grown w w' := by
  obtain ⟨n, rfl⟩ := h
  induction n with
  | zero => exact Grown.refl _
  | succ n ih => rw [← World.drew_drewN]; exact Grown.drew ih
theorem Drawn0.below {w w' : World} (h : Drawn0 w w') : Below w.heap.size w w' := by
  obtain ⟨n, rfl⟩ := h
  induction n with
  | zero => exact Below.refl _ _
  | succ n ih => rw [← World.drew_drewN]; exact ih.drew
def rd (xs : List Int) (i : Int) : Int := xs.getD i.toNat 0
theorem below_alloc {w W : World} (h : Below w.heap.size w W) (o : Obj) : Below w.heap.size w (W.alloc o) := h.alloc h.size o
theorem grown_of_below {w w1 : World} (h : Below w.heap.size w w1) (row : Option Nat) : w.grownBy w1 row := ⟨h.os, h.tape, h.output, h.size, fun i hi _ => h.block i hi⟩
theorem pw_cell_below {w w1 : World} (h : Below w.heap.size w w1) {a : Addr} {v : Value} (hc : w.cell? a = some v) : w1.cell? a = some v := (h.cell (World.block_lt_of_cell? w a hc)).trans hc
def ReadsInt (w : World) (k : IntKind) (A : Option Addr) (n : Nat) (xs : List Int) : Prop :=
  xs.length = n ∧ n ≤ 9223372036854775807 ∧ (0 < n → ∃ ad, A = some ad ∧ ∀ j, j < n → w.cell? (ad.add j) = some (.int k (xs.getD j 0)))
theorem ReadsInt.at_ {w : World} {k : IntKind} {A : Option Addr} {n : Nat} {xs : List Int} (h : ReadsInt w k A n xs) (i : Int) (h0 : 0 ≤ i) (h1 : i < n) : ∃ ad, A = some ad ∧ w.cell? (ad.add i.toNat) = some (.int k (rd xs i)) := by
  obtain ⟨ad, e, hc⟩ := h.2.2 (by omega)
  exact ⟨ad, e, hc _ (by omega)⟩
theorem ReadsInt.below {w w1 : World} {k : IntKind} {A : Option Addr} {n : Nat} {xs : List Int} (h : ReadsInt w k A n xs) (hb : Below w.heap.size w w1) : ReadsInt w1 k A n xs :=
  ⟨h.1, h.2.1, fun hn => by
    obtain ⟨ad, e, hc⟩ := h.2.2 hn
    exact ⟨ad, e, fun j hj => pw_cell_below hb (hc j hj)⟩⟩
theorem own_nil (W : World) (base : Nat) (e : TypeId) (size : Nat) : W.ownsRow base e size (.slice none 0 0) 0 [] := ⟨by simp, .inl ⟨rfl, rfl⟩⟩
theorem own_base {w : World} {base : Nat} {e : TypeId} {size n : Nat} {v : Value} {xs : List Value} (h : w.ownsRow base e size v n xs) (k : Nat) (hk : v.ownBlock = some k) : base ≤ k := by
  rcases h.2 with ⟨rfl, _⟩ | ⟨g, cap, cur, rfl, hb, _⟩
  · simp [Value.ownBlock] at hk
  · have : g = k := by simpa [Value.ownBlock] using hk
    omega
theorem own_lt {w : World} {base : Nat} {e : TypeId} {size n : Nat} {v : Value} {xs : List Value} (h : w.ownsRow base e size v n xs) (k : Nat) (hk : v.ownBlock = some k) : k < w.heap.size := by
  rcases h.2 with ⟨rfl, _⟩ | ⟨g, cap, cur, rfl, hb, hh, _⟩
  · simp [Value.ownBlock] at hk
  · have : g = k := by simpa [Value.ownBlock] using hk
    subst this
    exact (Array.getElem?_eq_some_iff.1 hh).1
theorem pw_own_below {w w1 : World} {base : Nat} {e : TypeId} {size n : Nat} {v : Value} {xs : List Value} (h : w.ownsRow base e size v n xs) (hb : Below w.heap.size w w1) : w1.ownsRow base e size v n xs :=
  h.kept (grown_of_below hb none) (by cases v.ownBlock <;> simp)
/-- What is written is another row: this one lives on. -/
theorem own_other {w w1 : World} {base : Nat} {e : TypeId} {size n : Nat} {v : Value} {xs : List Value} (h : w.ownsRow base e size v n xs) {row : Option Nat} (hg : w.grownBy w1 row) (hne : v.ownBlock = none ∨ v.ownBlock ≠ row) : w1.ownsRow base e size v n xs := h.kept hg hne
section
variable {P : Program} {ops : Array Oper} {rest : List Oper} {o : Oper} {a : Act} {Q : Exit → Act → World → Prop}
end
section
variable {P : Program}
end
section
variable {P : Program} {ops : Array Oper} {rest : List Oper} {o : Oper} {a : Act} {Q : Exit → Act → World → Prop}
end
def bytesOf (s : ByteArray) : List Int := s.data.toList.map fun b => (b.toNat : Int)
/-- Where the first answers, the second answers the same. -/
def LeO {α : Type} (a b : Option α) : Prop := ∀ r, a = some r → b = some r
theorem LeO.refl {α : Type} (a : Option α) : LeO a a := fun _ h => h
theorem LeO.none {α : Type} (b : Option α) : LeO Option.none b := fun _ h => by cases h
theorem LeO.trans {α : Type} {a b c : Option α} (h : LeO a b) (k : LeO b c) : LeO a c := fun r hr => k r (h r hr)
theorem LeO.bind {α β : Type} {a a' : Option α} {f f' : α → Option β} (h : LeO a a') (k : ∀ x, LeO (f x) (f' x)) : LeO (a.bind f) (a'.bind f') := by
  intro r hr
  obtain ⟨x, hx, hf⟩ := Option.bind_eq_some_iff.1 hr
  exact Option.bind_eq_some_iff.2 ⟨x, h x hx, k x r hf⟩
theorem LeO.map {α β : Type} {a a' : Option α} (f : α → β) (h : LeO a a') : LeO (a.map f) (a'.map f) := by
  intro r hr
  obtain ⟨x, hx, hf⟩ := Option.map_eq_some_iff.1 hr
  exact Option.map_eq_some_iff.2 ⟨x, h x hx, hf⟩
theorem more_rounds {α : Type} {g : Nat → Option α} (h : ∀ k, LeO (g k) (g (k + 1))) (k : Nat) : ∀ j, LeO (g k) (g (k + j))
  | 0 => LeO.refl _
  | j + 1 => (more_rounds h k j).trans (h (k + j))
theorem at_rounds {α : Type} {g : Nat → Option α} (h : ∀ k, LeO (g k) (g (k + 1))) {k k' : Nat} (hk : k ≤ k') {r : α} (hr : g k = some r) : g k' = some r := by
  have := more_rounds h k (k' - k) r hr
  rwa [Nat.add_sub_cancel' hk] at this
def Reps {α : Type} (R : α → List Value → Prop) (size : Nat) (ps : List α) (cs : List Value) : Prop :=
  cs.length = ps.length * size ∧ ∀ j p, ps[j]? = some p → R p ((cs.drop (j * size)).take size)
theorem Reps.none {α : Type} (R : α → List Value → Prop) (size : Nat) : Reps R size [] [] := ⟨by simp, fun j p h => by simp at h⟩
theorem Reps.snoc {α : Type} {R : α → List Value → Prop} {size : Nat} {ps : List α} {cs c : List Value} {p : α} (h : Reps R size ps cs) (hp : R p c) (hc : c.length = size) : Reps R size (ps ++ [p]) (cs ++ c) := by
  refine ⟨by rw [List.length_append, h.1, hc, List.length_append, List.length_singleton, Nat.add_mul, Nat.one_mul], fun j q hq => ?_⟩
  rcases Nat.lt_or_ge j ps.length with hj | hj
  · rw [List.getElem?_append_left hj] at hq
    have h1 : j * size + size ≤ cs.length := by rw [h.1, ← Nat.succ_mul]; exact Nat.mul_le_mul_right _ hj
    have h2 := h.2 j q hq
    rw [List.drop_append_of_le_length (by omega), List.take_append_of_le_length (by rw [List.length_drop]; omega)]
    exact h2
  · have hj' : j = ps.length := by
      have := (List.getElem?_eq_some_iff.1 hq).1
      rw [List.length_append, List.length_singleton] at this
      omega
    subst hj'
    have hq' : p = q := by simpa using hq
    subst hq'
    rw [← h.1, List.drop_left, ← hc, List.take_length]
    exact hp
theorem Reps.imp_ {α : Type} {R R' : α → List Value → Prop} {size : Nat} {ps : List α} {cs : List Value} (h : Reps R size ps cs) (hR : ∀ p c, R p c → R' p c) : Reps R' size ps cs := ⟨h.1, fun j p hj => hR _ _ (h.2 j p hj)⟩
def ReadsRow {α : Type} (R : α → List Value → Prop) (size : Nat) (w : World) (A : Option Addr) (n : Nat) (ps : List α) : Prop :=
  ps.length = n ∧ n ≤ 9223372036854775807 ∧ (0 < n → ∃ ad, A = some ad ∧ ∀ j p, ps[j]? = some p → ∃ c, c.length = size ∧ R p c ∧ ∀ i u, c[i]? = some u → w.cell? (ad.add (j * size + i)) = some u)
theorem ReadsRow.imp_ {α : Type} {R R' : α → List Value → Prop} {size : Nat} {w w1 : World} {A : Option Addr} {n : Nat} {ps : List α} (h : ReadsRow R size w A n ps) (hb : Below w.heap.size w w1) (hR : ∀ p c, R p c → R' p c) : ReadsRow R' size w1 A n ps :=
  ⟨h.1, h.2.1, fun hn => by
    obtain ⟨ad, e, hc⟩ := h.2.2 hn
    refine ⟨ad, e, fun j p hj => ?_⟩
    obtain ⟨c, hs, hr, hcell⟩ := hc j p hj
    exact ⟨c, hs, hR _ _ hr, fun i u hu => pw_cell_below hb (hcell i u hu)⟩⟩
theorem own_reads_row {α : Type} {R : α → List Value → Prop} {w : World} {base n size : Nat} {e : TypeId} {v : Value} {ps : List α} {cs : List Value} (h : w.ownsRow base e size v n cs) (hR : Reps R size ps cs) (hn : ps.length = n) :
    ∃ A c, v = .slice A n c ∧ ReadsRow R size w A n ps := by
  rcases Nat.eq_zero_or_pos n with h0 | h0
  · rcases h.2 with ⟨rfl, rfl⟩ | ⟨g, cap, cur, rfl, _⟩
    · exact ⟨none, 0, rfl, hn, by omega, fun hp => absurd hp (by omega)⟩
    · exact ⟨_, cap, rfl, hn, by omega, fun hp => absurd hp (by omega)⟩
  · obtain ⟨g, cap, rfl, _, _⟩ := h.form h0
    have hm : n ≤ 9223372036854775807 := by
      rcases h.2 with ⟨_, h1⟩ | ⟨g', cap', cur, he, _, _, h1, h2, _⟩
      · omega
      · simp only [maxLen] at h2
        omega
    refine ⟨_, cap, rfl, hn, hm, fun _ => ⟨_, rfl, fun j p hj => ⟨(cs.drop (j * size)).take size, ?_, hR.2 j p hj, fun i u hu => ?_⟩⟩⟩
    · have hjl := (List.getElem?_eq_some_iff.1 hj).1
      have h1 : j * size + size ≤ cs.length := by rw [hR.1, ← Nat.succ_mul]; exact Nat.mul_le_mul_right _ hjl
      rw [List.length_take, List.length_drop]
      omega
    · refine h.cells (g := g) rfl _ u ?_
      rw [List.getElem?_take] at hu
      split at hu
      · rw [List.getElem?_drop] at hu
        exact hu
      · cases hu
section
variable {P : Program} {ops : Array Oper} {rest : List Oper} {o : Oper} {a : Act} {Q : Exit → Act → World → Prop}
/-- append(v, x), x of several cells; behind 'at_builtin'; the goal's world is 'W.alloc' of the variadic's box. -/
theorem print_append_cells {w0 W : World} (base : Nat) (hgd : o.guard = none) (s x : Operand) (t e : TypeId) (z : Value) (size bytes : Nat)
    (ho : o.op = .call { callee := .builtin .append, args := #[s, x], argTypes := #[t, t] })
    (ht : P.underlying t = some (.slice e)) (hinfo : (P.info? e).map (fun i => (i.zero, i.size, i.bytes)) = some (some z, size, bytes)) (hz : z.cells.size = size) (hs0 : 0 < size) (hb0 : 0 < bytes)
    (v : Value) (n : Nat) (xs ys : List Value) (hs : a.eval s = v) (hx : a.eval x = .slice (some ⟨W.heap.size, 0, none⟩) 1 1) (hys : ys.length = size) (h1 : ∀ u ∈ ys, u.oneCell' = true)
    (HO : W.ownsRow base e size v n xs) (HB : Below base w0 W) (hbase : base ≤ W.heap.size) (hl : (n + 1) * bytes ≤ 140737488355328)
    (h : ∀ v1 w1, w1.ownsRow base e size v1 (n + 1) (xs ++ ys) → Below base w0 w1 → W.grownBy w1 v.ownBlock → (v1.ownBlock = v.ownBlock ∨ ∃ b, v1.ownBlock = some b ∧ W.heap.size ≤ b) → wpList P ops Q rest (a.put o.dst v1) w1) :
    wpList P ops Q (o :: rest) a (W.alloc (.cells ys.toArray e)) := by
  obtain ⟨i0, hi, hzz⟩ := Option.map_eq_some_iff.1 hinfo
  simp only [Prod.mk.injEq] at hzz
  obtain ⟨hz0, hz1, hz2⟩ := hzz
  have hlen : n + 1 ≤ 140737488355328 := Nat.le_trans (Nat.le_mul_of_pos_right _ hb0) hl
  refine wpList_append_own_at (W.alloc (.cells ys.toArray e)) hgd s x t ho base e i0 z size bytes ht hi hz0 hz1 hz2 hz hs0 v n xs hs (HO.alloc _) ⟨W.heap.size, 0, none⟩ 1 1 ys hx (by rw [hys]; simp)
    (by simpa using World.news_of_block (cs := ys.toArray) (t := e) (fr := (0, 0)) (heap_alloc_new W (.cells ys.toArray e))) h1 (by simp only [maxLen]; omega) hl (by simp; omega) ?_
  intro v1 w1 hown hg _ hat
  refine h v1 w1 hown ((HB.alloc hbase _).grown hg (by simp; omega) (own_base HO)) (World.grownBy.trans (World.grownBy_alloc W _ _) hg) ?_
  rcases hat with hat | hat
  · exact .inl hat
  · exact .inr ⟨_, hat, by simp⟩
end
theorem own_ne {w : World} {base : Nat} {e t : TypeId} {size n g : Nat} {v : Value} {xs : List Value} {cs : Array Value} (h : w.ownsRow base e size v n xs) (hg : w.heap[g]? = some (.cells cs t (0, 0))) (hne : e ≠ t) : some g ≠ v.ownBlock := by
  rcases h.2 with ⟨rfl, _⟩ | ⟨g', cap, cur, rfl, _, hh, _⟩
  · simp [Value.ownBlock]
  · intro he
    have : g = g' := by simpa [Value.ownBlock] using he
    subst this
    rw [hg] at hh
    injection hh with hh
    injection hh with _ ht
    exact hne ht.symm
theorem blk_lt {w : World} {g : Nat} {o : Obj} (h : w.heap[g]? = some o) : g < w.heap.size := (Array.getElem?_eq_some_iff.1 h).1
def KeepBut (w w' : World) (g : Nat) (row : Option Nat) : Prop := w.heap.size ≤ w'.heap.size ∧ ∀ i, i < w.heap.size → i ≠ g → some i ≠ row → w'.heap[i]? = w.heap[i]?
theorem KeepBut.refl (w : World) (g : Nat) (row : Option Nat) : KeepBut w w g row := ⟨Nat.le_refl _, fun _ _ _ _ => rfl⟩
theorem KeepBut.of_below {w w1 : World} (h : Below w.heap.size w w1) (g : Nat) (row : Option Nat) : KeepBut w w1 g row := ⟨h.size, fun i hi _ _ => h.block i hi⟩
theorem KeepBut.trans {w w1 w2 : World} {g : Nat} {row row1 : Option Nat} (h : KeepBut w w1 g row) (k : KeepBut w1 w2 g row1) (hr : row1 = row ∨ ∃ b, row1 = some b ∧ w.heap.size ≤ b) : KeepBut w w2 g row :=
  ⟨Nat.le_trans h.1 k.1, fun i hi hg hn => by
    refine (k.2 i (Nat.lt_of_lt_of_le hi h.1) hg ?_).trans (h.2 i hi hg hn)
    rcases hr with rfl | ⟨b, rfl, hb⟩
    · exact hn
    · intro e
      injection e with e
      omega⟩
/-- Another block, another row: they live on. -/
theorem KeepBut.blk {w w1 : World} {g g' : Nat} {row : Option Nat} {o : Obj} (h : KeepBut w w1 g row) (hb : w.heap[g']? = some o) (hg : g' ≠ g) (hr : some g' ≠ row) : w1.heap[g']? = some o := (h.2 g' (blk_lt hb) hg hr).trans hb
theorem KeepBut.own {w w1 : World} {g : Nat} {row : Option Nat} {base : Nat} {e : TypeId} {size n : Nat} {v : Value} {xs : List Value} (h : KeepBut w w1 g row) (ho : w.ownsRow base e size v n xs) (hg : v.ownBlock ≠ some g) (hr : v.ownBlock = none ∨ v.ownBlock ≠ row) : w1.ownsRow base e size v n xs := by
  obtain ⟨h1, h2⟩ := ho
  refine ⟨h1, ?_⟩
  rcases h2 with h2 | ⟨b, cap, cur, rfl, hb, hh, r⟩
  · exact .inl h2
  · refine .inr ⟨b, cap, cur, rfl, hb, h.blk hh ?_ ?_, r⟩
    · intro e
      exact hg (by rw [← e]; rfl)
    · rcases hr with hr | hr
      · simp [Value.ownBlock] at hr
      · exact hr
def Ev {α : Type} (g : Nat → Option α) (r : α) : Prop := ∃ K, ∀ k, K ≤ k → g k = some r
theorem Ev.of {α : Type} {g : Nat → Option α} {r : α} (hg : ∀ k, LeO (g k) (g (k + 1))) {k : Nat} (h : g k = some r) : Ev g r := ⟨k, fun _ hk => at_rounds hg hk h⟩
theorem Ev.now {α : Type} (r : α) : Ev (fun _ => some r) r := ⟨0, fun _ _ => rfl⟩
theorem Ev.bind {α β : Type} {g : Nat → Option α} {f : Nat → α → Option β} {a : α} {r : β} (h : Ev g a) (k : Ev (fun n => f n a) r) : Ev (fun n => (g n).bind (f n)) r := by
  obtain ⟨K, h⟩ := h
  obtain ⟨K', k⟩ := k
  refine ⟨max K K', fun n hn => ?_⟩
  have h1 := h n (by omega)
  have h2 := k n (by omega)
  simp only [h1, Option.bind_some]
  exact h2
/-- One round of a loop. -/
theorem Ev.step {α : Type} {g f : Nat → Option α} {r : α} (h : ∀ k, g (k + 1) = f k) (k : Ev f r) : Ev g r := by
  obtain ⟨K, k⟩ := k
  refine ⟨K + 1, fun n hn => ?_⟩
  obtain ⟨m, rfl⟩ : ∃ m, n = m + 1 := ⟨n - 1, by omega⟩
  rw [h]
  exact k m (by omega)
theorem Ev.congr {α : Type} {g f : Nat → Option α} {r : α} (h : ∀ k, g k = f k) (k : Ev f r) : Ev g r := by
  obtain ⟨K, k⟩ := k
  exact ⟨K, fun n hn => (h n).trans (k n hn)⟩
section
variable {P : Program} {ops : Array Oper} {o : Oper} {a : Act} {Q : Exit → Act → World → Prop} {K : Act → World → Prop}
end
theorem own_weaken {w : World} {base base' : Nat} {e : TypeId} {size n : Nat} {v : Value} {xs : List Value} (h : w.ownsRow base e size v n xs) (hb : base' ≤ base) : w.ownsRow base' e size v n xs := by
  obtain ⟨h1, h2⟩ := h
  refine ⟨h1, ?_⟩
  rcases h2 with h2 | ⟨g, cap, cur, rfl, hg, r⟩
  · exact .inl h2
  · exact .inr ⟨g, cap, cur, rfl, Nat.le_trans hb hg, r⟩
section
variable {α : Type} {enc : α → Value} {d : α}
def rdOf (d : α) (xs : List α) (i : Int) : α := xs.getD i.toNat d
def ReadsOf (enc : α → Value) (d : α) (w : World) (A : Option Addr) (n : Nat) (xs : List α) : Prop :=
  xs.length = n ∧ n ≤ 9223372036854775807 ∧ (0 < n → ∃ ad, A = some ad ∧ ∀ j, j < n → w.cell? (ad.add j) = some (enc (xs.getD j d)))
theorem ReadsOf.at_ {w : World} {A : Option Addr} {n : Nat} {xs : List α} (h : ReadsOf enc d w A n xs) (i : Int) (h0 : 0 ≤ i) (h1 : i < n) : ∃ ad, A = some ad ∧ w.cell? (ad.add i.toNat) = some (enc (rdOf d xs i)) := by
  obtain ⟨ad, e, hc⟩ := h.2.2 (by omega)
  exact ⟨ad, e, hc _ (by omega)⟩
theorem ReadsOf.below {w w1 : World} {A : Option Addr} {n : Nat} {xs : List α} (h : ReadsOf enc d w A n xs) (hb : Below w.heap.size w w1) : ReadsOf enc d w1 A n xs :=
  ⟨h.1, h.2.1, fun hn => by
    obtain ⟨ad, e, hc⟩ := h.2.2 hn
    exact ⟨ad, e, fun j hj => pw_cell_below hb (hc j hj)⟩⟩
end
section
variable {α : Type} {P : Program} {ops : Array Oper} {rest : List Oper} {o : Oper} {a : Act} {Q : Exit → Act → World → Prop}
end
section
variable {P : Program}
end
theorem own_le {w : World} {base n m c size : Nat} {e : TypeId} {A : Option Addr} {xs : List Value} (h : w.ownsRow base e size (.slice A m c) n xs) : m ≤ c := by
  rcases h.2 with ⟨he, _⟩ | ⟨g, cap, cur, he, _, _, hnc, _⟩
  · injection he with _ h2 h3
    omega
  · injection he with _ h2 h3
    omega
def OwnRow {α : Type} (R : α → List Value → Prop) (e : TypeId) (size : Nat) (w : World) (base : Nat) (v : Value) (ps : List α) : Prop :=
  ∃ inner, w.ownsRow base e size v ps.length inner ∧ Reps R size ps inner
section
variable {α : Type} {R R' : α → List Value → Prop} {e : TypeId} {size : Nat} {w w1 : World} {base : Nat} {v : Value} {ps : List α}
theorem OwnRow.none_ (R : α → List Value → Prop) (e : TypeId) (size : Nat) (w : World) (base : Nat) : OwnRow R e size w base (.slice none 0 0) [] := ⟨[], own_nil _ _ _ _, Reps.none _ _⟩
theorem OwnRow.imp_ (h : OwnRow R e size w base v ps) (hR : ∀ p c, R p c → R' p c) : OwnRow R' e size w base v ps := by
  obtain ⟨inner, ho, hr⟩ := h
  exact ⟨inner, ho, hr.imp_ hR⟩
theorem OwnRow.below (h : OwnRow R e size w base v ps) (hb : Below w.heap.size w w1) : OwnRow R e size w1 base v ps := by
  obtain ⟨inner, ho, hr⟩ := h
  exact ⟨inner, pw_own_below ho hb, hr⟩
theorem OwnRow.other (h : OwnRow R e size w base v ps) {row : Option Nat} (hg : w.grownBy w1 row) (hne : v.ownBlock = none ∨ v.ownBlock ≠ row) : OwnRow R e size w1 base v ps := by
  obtain ⟨inner, ho, hr⟩ := h
  exact ⟨inner, own_other ho hg hne, hr⟩
theorem OwnRow.keep (h : OwnRow R e size w base v ps) {g : Nat} {t : TypeId} {cells : Array Value} (hb : w.heap[g]? = some (.cells cells t (0, 0))) (ht : e ≠ t) (hk : KeepBut w w1 g none) : OwnRow R e size w1 base v ps := by
  obtain ⟨inner, ho, hr⟩ := h
  exact ⟨inner, hk.own ho (Ne.symm (own_ne ho hb ht)) (by cases v.ownBlock <;> simp), hr⟩
theorem OwnRow.reads (h : OwnRow R e size w base v ps) : ∃ A c, v = .slice A ps.length c ∧ ps.length ≤ c ∧ ReadsRow R size w A ps.length ps := by
  obtain ⟨inner, ho, hr⟩ := h
  obtain ⟨A, c, rfl, hrow⟩ := own_reads_row ho hr rfl
  exact ⟨A, c, rfl, own_le ho, hrow⟩
/-- A literal: the elements' cells one behind the other. -/
theorem OwnRow.lit (W : World) (base : Nat) {inner : List Value} (hr : Reps R size ps inner) (hb : base ≤ W.heap.size) (hm : ps.length ≤ 9223372036854775807) :
    OwnRow R e size (W.alloc (.cells inner.toArray e)) base (.slice (some ⟨W.heap.size, 0, none⟩) ps.length ps.length) ps := by
  have h := World.ownsRow_lit (base := base) (e := e) (size := size) W inner.toArray ps.length hb (by simpa [maxLen] using hm) (by simpa using hr.1)
  exact ⟨inner, by simpa using h, hr⟩
end
section
variable {P : Program} {ops : Array Oper} {rest : List Oper} {o : Oper} {a : Act} {Q : Exit → Act → World → Prop} {α : Type} {R : α → List Value → Prop}
/-- append(v, x): x's cells are cs. R is that of the world AHEAD; move it over hg ('OwnRow.imp_'). -/
theorem OwnRow.append {w0 W : World} (base : Nat) (hgd : o.guard = none) (s x : Operand) (t e : TypeId) (z : Value) (size bytes : Nat)
    (ho : o.op = .call { callee := .builtin .append, args := #[s, x], argTypes := #[t, t] })
    (ht : P.underlying t = some (.slice e)) (hinfo : (P.info? e).map (fun i => (i.zero, i.size, i.bytes)) = some (some z, size, bytes)) (hz : z.cells.size = size) (hs0 : 0 < size) (hb0 : 0 < bytes)
    (v : Value) (ps : List α) (p : α) (cs : List Value) (hs : a.eval s = v) (hx : a.eval x = .slice (some ⟨W.heap.size, 0, none⟩) 1 1) (hp : R p cs) (hcs : cs.length = size) (h1 : ∀ u ∈ cs, u.oneCell' = true)
    (HO : OwnRow R e size W base v ps) (HB : Below base w0 W) (hbase : base ≤ W.heap.size) (hl : (ps.length + 1) * bytes ≤ 140737488355328)
    (h : ∀ v1 w1, OwnRow R e size w1 base v1 (ps ++ [p]) → Below base w0 w1 → W.grownBy w1 v.ownBlock → (v1.ownBlock = v.ownBlock ∨ ∃ b, v1.ownBlock = some b ∧ W.heap.size ≤ b) → wpList P ops Q rest (a.put o.dst v1) w1) :
    wpList P ops Q (o :: rest) a (W.alloc (.cells cs.toArray e)) := by
  obtain ⟨inner, hown, hr⟩ := HO
  refine print_append_cells base hgd s x t e z size bytes ho ht hinfo hz hs0 hb0 v ps.length inner cs hs hx hcs h1 hown HB hbase hl ?_
  intro v1 w1 hown1 hb1 hg1 hat1
  exact h v1 w1 ⟨inner ++ cs, by rw [List.length_append, List.length_singleton]; exact hown1, hr.snoc hp hcs⟩ hb1 hg1 hat1
end
section
variable {P : Program} {ops : Array Oper} {o : Oper} {a : Act} {Q : Exit → Act → World → Prop} {K : Act → World → Prop} {α : Type} {R : α → List Value → Prop}
end
section
variable {α : Type} {P : Program}
theorem ReadsOf.len_ {enc : α → Value} {d : α} {w : World} {A : Option Addr} {n : Nat} {xs : List α} (h : ReadsOf enc d w A n xs) : ReadsOf enc d w A xs.length xs := by rw [h.1]; exact h
end
section
variable {P : Program} {ops : Array Oper} {rest : List Oper} {o : Oper} {a : Act} {Q : Exit → Act → World → Prop}
end
/-- ok: which blocks the rows inside may be ('not the row that is being written'). -/
structure Kd (α : Type) where
  sz : Nat
  E : List Nat
  K : World → α → List Value → Prop
  M : World → Nat → (Nat → Prop) → α → List Value → Prop
  K_len : ∀ {w x cs}, K w x cs → cs.length = sz
  K_one : ∀ {w x cs}, K w x cs → ∀ u ∈ cs, u.oneCell' = true
  K_below : ∀ {w w1 : World} {x cs}, Below w.heap.size w w1 → K w x cs → K w1 x cs
  K_of_M : ∀ {w base ok x cs}, M w base ok x cs → K w x cs
  M_mono : ∀ {w base ok ok' x cs}, (∀ k, ok k → ok' k) → M w base ok x cs → M w base ok' x cs
  M_bound : ∀ {w : World} {base ok x cs}, M w base ok x cs → M w base (fun k => ok k ∧ base ≤ k ∧ k < w.heap.size ∧ ∃ q, q ∈ E ∧ ∃ cells, w.heap[k]? = some (.cells cells q (0, 0))) x cs
  M_move : ∀ {w w1 : World} {base ok x cs}, (∀ k, ok k → w1.heap[k]? = w.heap[k]?) → M w base ok x cs → M w1 base ok x cs
  M_lower : ∀ {w base base' ok x cs}, base' ≤ base → M w base ok x cs → M w base' ok x cs
theorem own_move {w w1 : World} {base : Nat} {e : TypeId} {size n : Nat} {v : Value} {xs : List Value} (h : w.ownsRow base e size v n xs) (hm : ∀ k, v.ownBlock = some k → w1.heap[k]? = w.heap[k]?) : w1.ownsRow base e size v n xs := by
  obtain ⟨h1, h2⟩ := h
  refine ⟨h1, ?_⟩
  rcases h2 with h2 | ⟨g, cap, cur, rfl, hg, hh, r⟩
  · exact .inl h2
  · exact .inr ⟨g, cap, cur, rfl, hg, (hm g (by simp [Value.ownBlock])).trans hh, r⟩
theorem own_typed {w : World} {base : Nat} {e : TypeId} {size n : Nat} {v : Value} {xs : List Value} (h : w.ownsRow base e size v n xs) (k : Nat) (hk : v.ownBlock = some k) : ∃ cells, w.heap[k]? = some (.cells cells e (0, 0)) := by
  rcases h.2 with ⟨rfl, _⟩ | ⟨g, cap, cur, rfl, hg, hh, r⟩
  · simp [Value.ownBlock] at hk
  · have : g = k := by simpa [Value.ownBlock] using hk
    subst this
    exact ⟨cur, hh⟩
namespace Kd
/-- A row of elements that is read. -/
def C {α : Type} (d : Kd α) (w : World) (A : Option Addr) (n : Nat) (xs : List α) : Prop := ReadsRow (d.K w) d.sz w A n xs
/-- A row of elements (type e) of the call's own; the elements' rows are not this one. -/
def R {α : Type} (d : Kd α) (e : Nat) (w : World) (base : Nat) (ok : Nat → Prop) (v : Value) (xs : List α) : Prop :=
  (∀ k, v.ownBlock = some k → ok k) ∧ OwnRow (d.M w base (fun k => ok k ∧ some k ≠ v.ownBlock)) e d.sz w base v xs
section
variable {α : Type} {d : Kd α} {e : Nat} {w w1 : World} {base : Nat} {ok ok' : Nat → Prop} {v : Value} {xs : List α}
theorem C_below {A : Option Addr} {n : Nat} (h : d.C w A n xs) (hb : Below w.heap.size w w1) : d.C w1 A n xs := ReadsRow.imp_ h hb (fun _ _ hp => d.K_below hb hp)
theorem R_mono (h : d.R e w base ok v xs) (hok : ∀ k, ok k → ok' k) : d.R e w base ok' v xs := ⟨fun k hk => hok k (h.1 k hk), h.2.imp_ (fun _ _ hp => d.M_mono (fun k hk => ⟨hok k hk.1, hk.2⟩) hp)⟩
theorem R_bound (h : d.R e w base ok v xs) : d.R e w base (fun k => ok k ∧ base ≤ k ∧ k < w.heap.size ∧ ∃ q, q ∈ e :: d.E ∧ ∃ cells, w.heap[k]? = some (.cells cells q (0, 0))) v xs := by
  obtain ⟨h0, inner, ho, hr⟩ := h
  refine ⟨fun k hk => ?_, inner, ho, hr.imp_ (fun _ _ hp => d.M_mono (fun k hk => ?_) (d.M_bound hp))⟩
  · obtain ⟨cells, hc⟩ := own_typed ho k hk
    exact ⟨h0 k hk, own_base ho k hk, own_lt ho k hk, e, List.mem_cons_self, cells, hc⟩
  · obtain ⟨⟨h1, h2⟩, h3, h4, q, hq, hc⟩ := hk
    exact ⟨⟨h1, h3, h4, q, List.mem_cons_of_mem _ hq, hc⟩, h2⟩
theorem R_move (h : d.R e w base ok v xs) (hm : ∀ k, ok k → w1.heap[k]? = w.heap[k]?) : d.R e w1 base ok v xs := by
  obtain ⟨h0, inner, ho, hr⟩ := h
  exact ⟨h0, inner, own_move ho (fun k hk => hm k (h0 k hk)), hr.imp_ (fun _ _ hp => d.M_move (fun k hk => hm k hk.1) hp)⟩
theorem R_lower {base' : Nat} (h : d.R e w base ok v xs) (hb : base' ≤ base) : d.R e w base' ok v xs := by
  obtain ⟨h0, inner, ho, hr⟩ := h
  exact ⟨h0, inner, own_weaken ho hb, hr.imp_ (fun _ _ hp => d.M_lower hb hp)⟩
theorem R_reads (h : d.R e w base ok v xs) : ∃ A c, v = .slice A xs.length c ∧ xs.length ≤ c ∧ d.C w A xs.length xs := by
  obtain ⟨A, c, he, hl, hr⟩ := OwnRow.reads h.2
  exact ⟨A, c, he, hl, hr.imp_ (Below.refl _ _) (fun _ _ hp => d.K_of_M hp)⟩
end
def scalar {α : Type} (enc : α → Value) (h1 : ∀ x, (enc x).oneCell' = true) : Kd α where
  sz := 1
  E := []
  K := fun _ x cs => cs = [enc x]
  M := fun _ _ _ x cs => cs = [enc x]
  K_len := fun h => by rw [h]; rfl
  K_one := fun h u hu => by
    rw [h] at hu
    rw [List.mem_singleton.1 hu]
    exact h1 _
  K_below := fun _ h => h
  K_of_M := fun h => h
  M_mono := fun _ h => h
  M_bound := fun h => h
  M_move := fun _ h => h
  M_lower := fun _ h => h
def int (k : IntKind) : Kd Int := scalar (Value.int k) (fun _ => rfl)
def bool : Kd Bool := scalar Value.bool (fun _ => rfl)
def string : Kd ByteArray := scalar Value.string (fun _ => rfl)
def slice {α : Type} (e : Nat) (d : Kd α) : Kd (List α) where
  sz := 1
  E := e :: d.E
  K := fun w xs cs => ∃ A c, cs = [.slice A xs.length c] ∧ xs.length ≤ c ∧ d.C w A xs.length xs
  M := fun w base ok xs cs => ∃ v, cs = [v] ∧ d.R e w base ok v xs
  K_len := by
    rintro w x cs ⟨A, c, rfl, _⟩
    rfl
  K_one := by
    rintro w x cs ⟨A, c, rfl, _⟩ u hu
    rw [List.mem_singleton.1 hu]
    rfl
  K_below := by
    rintro w w1 x cs hb ⟨A, c, rfl, hl, hr⟩
    exact ⟨A, c, rfl, hl, C_below hr hb⟩
  K_of_M := by
    rintro w base ok x cs ⟨v, rfl, h⟩
    obtain ⟨A, c, rfl, hl, hr⟩ := R_reads h
    exact ⟨A, c, rfl, hl, hr⟩
  M_mono := by
    rintro w base ok ok' x cs hok ⟨v, rfl, h⟩
    exact ⟨v, rfl, R_mono h hok⟩
  M_bound := by
    rintro w base ok x cs ⟨v, rfl, h⟩
    exact ⟨v, rfl, R_bound h⟩
  M_move := by
    rintro w w1 base ok x cs hm ⟨v, rfl, h⟩
    exact ⟨v, rfl, R_move h hm⟩
  M_lower := by
    rintro w base base' ok x cs hb ⟨v, rfl, h⟩
    exact ⟨v, rfl, R_lower h hb⟩
/-- Two in line. -/
def pair {α β : Type} (a : Kd α) (b : Kd β) : Kd (α × β) where
  sz := a.sz + b.sz
  E := a.E ++ b.E
  K := fun w x cs => ∃ c0 c1, cs = c0 ++ c1 ∧ a.K w x.1 c0 ∧ b.K w x.2 c1
  M := fun w base ok x cs => ∃ c0 c1, cs = c0 ++ c1 ∧ a.M w base ok x.1 c0 ∧ b.M w base ok x.2 c1
  K_len := by
    rintro w x cs ⟨c0, c1, rfl, h0, h1⟩
    rw [List.length_append, a.K_len h0, b.K_len h1]
  K_one := by
    rintro w x cs ⟨c0, c1, rfl, h0, h1⟩ u hu
    rcases List.mem_append.1 hu with hu | hu
    · exact a.K_one h0 u hu
    · exact b.K_one h1 u hu
  K_below := by
    rintro w w1 x cs hb ⟨c0, c1, rfl, h0, h1⟩
    exact ⟨c0, c1, rfl, a.K_below hb h0, b.K_below hb h1⟩
  K_of_M := by
    rintro w base ok x cs ⟨c0, c1, rfl, h0, h1⟩
    exact ⟨c0, c1, rfl, a.K_of_M h0, b.K_of_M h1⟩
  M_mono := by
    rintro w base ok ok' x cs hok ⟨c0, c1, rfl, h0, h1⟩
    exact ⟨c0, c1, rfl, a.M_mono hok h0, b.M_mono hok h1⟩
  M_bound := by
    rintro w base ok x cs ⟨c0, c1, rfl, h0, h1⟩
    refine ⟨c0, c1, rfl, a.M_mono ?_ (a.M_bound h0), b.M_mono ?_ (b.M_bound h1)⟩
    · rintro k ⟨h2, h3, h4, q, hq, hc⟩
      exact ⟨h2, h3, h4, q, List.mem_append_left _ hq, hc⟩
    · rintro k ⟨h2, h3, h4, q, hq, hc⟩
      exact ⟨h2, h3, h4, q, List.mem_append_right _ hq, hc⟩
  M_move := by
    rintro w w1 base ok x cs hm ⟨c0, c1, rfl, h0, h1⟩
    exact ⟨c0, c1, rfl, a.M_move hm h0, b.M_move hm h1⟩
  M_lower := by
    rintro w base base' ok x cs hb ⟨c0, c1, rfl, h0, h1⟩
    exact ⟨c0, c1, rfl, a.M_lower hb h0, b.M_lower hb h1⟩
/-- Nothing is of this kind: where the nesting's depth is used up. -/
def bot {α : Type} (sz : Nat) (E : List Nat) : Kd α where
  sz := sz
  E := E
  K := fun _ _ _ => False
  M := fun _ _ _ _ _ => False
  K_len := fun h => h.elim
  K_one := fun h => h.elim
  K_below := fun _ h => h
  K_of_M := fun h => h
  M_mono := fun _ h => h
  M_bound := fun h => h
  M_move := fun _ h => h
  M_lower := fun _ h => h
/-- A type nested in itself: nested at most n deep .. -/
def upto {α : Type} (F : Kd α → Kd α) (sz : Nat) (E : List Nat) : Nat → Kd α
  | 0 => bot sz E
  | n + 1 => F (upto F sz E n)
/-- .. for some n. -/
def fix {α : Type} (F : Kd α → Kd α) (sz : Nat) (E : List Nat) (hs : ∀ n, (upto F sz E n).sz = sz) (hE : ∀ n q, q ∈ (upto F sz E n).E → q ∈ E) : Kd α where
  sz := sz
  E := E
  K := fun w x cs => ∃ n, (upto F sz E n).K w x cs
  M := fun w base ok x cs => ∃ n, (upto F sz E n).M w base ok x cs
  K_len := by
    rintro w x cs ⟨n, h⟩
    rw [(upto F sz E n).K_len h, hs n]
  K_one := by
    rintro w x cs ⟨n, h⟩
    exact (upto F sz E n).K_one h
  K_below := by
    rintro w w1 x cs hb ⟨n, h⟩
    exact ⟨n, (upto F sz E n).K_below hb h⟩
  K_of_M := by
    rintro w base ok x cs ⟨n, h⟩
    exact ⟨n, (upto F sz E n).K_of_M h⟩
  M_mono := by
    rintro w base ok ok' x cs hok ⟨n, h⟩
    exact ⟨n, (upto F sz E n).M_mono hok h⟩
  M_bound := by
    rintro w base ok x cs ⟨n, h⟩
    refine ⟨n, (upto F sz E n).M_mono ?_ ((upto F sz E n).M_bound h)⟩
    rintro k ⟨h2, h3, h4, q, hq, hc⟩
    exact ⟨h2, h3, h4, q, hE n q hq, hc⟩
  M_move := by
    rintro w w1 base ok x cs hm ⟨n, h⟩
    exact ⟨n, (upto F sz E n).M_move hm h⟩
  M_lower := by
    rintro w base base' ok x cs hb ⟨n, h⟩
    exact ⟨n, (upto F sz E n).M_lower hb h⟩
section
variable {P : Program} {ops : Array Oper} {rest : List Oper} {o : Oper} {a : Act} {Q : Exit → Act → World → Prop} {α : Type}
end
section
variable {P : Program} {ops : Array Oper} {o : Oper} {a : Act} {Q : Exit → Act → World → Prop} {Kc : Act → World → Prop} {α : Type}
end
end Kd
namespace Kd
/-- F says the more, the more its argument says. -/
structure Mono {α β : Type} (F : Kd α → Kd β) : Prop where
  sz : ∀ d d' : Kd α, d.sz = d'.sz → (F d).sz = (F d').sz
  K : ∀ d d' : Kd α, d.sz = d'.sz → (∀ w x cs, d.K w x cs → d'.K w x cs) → ∀ w x cs, (F d).K w x cs → (F d').K w x cs
  M : ∀ d d' : Kd α, d.sz = d'.sz → (∀ w base ok x cs, d.M w base ok x cs → d'.M w base ok x cs) → ∀ w base ok x cs, (F d).M w base ok x cs → (F d').M w base ok x cs
section
variable {α : Type} {F : Kd α → Kd α} {sz : Nat} {E : List Nat} {hs : ∀ n, (upto F sz E n).sz = sz} {hE : ∀ n q, q ∈ (upto F sz E n).E → q ∈ E}
end
end Kd
namespace Kd
end Kd
namespace Kd
section
variable {α β : Type} {d : Kd α} {d' : Kd β} {e e' : Nat} {w w1 W : World} {base b b' : Nat} {ok ok' okv oku : Nat → Prop} {v u : Value} {xs : List α} {ys : List β}
theorem C_nil (d : Kd α) (w : World) : d.C w none ([] : List α).length [] := ⟨rfl, by simp, fun h => absurd h (Nat.lt_irrefl 0)⟩
end
section
variable {w W : World} {A : Option Addr} {n : Nat}
variable {α : Type} {enc : α → Value} {h1 : ∀ x, (enc x).oneCell' = true} {e base g cap : Nat} {ok : Nat → Prop} {xs : List α}
end
section
variable {P : Program} {ops : Array Oper} {rest : List Oper} {o : Oper} {a : Act} {Q : Exit → Act → World → Prop}
variable {α : Type}
end
end Kd
section
variable {P : Program}
end
/-- A row of one's own that may begin inside its block. -/
def QRow (w : World) (base : Nat) (e : TypeId) (size : Nat) (v : Value) (n : Nat) (xs : List Value) : Prop :=
  xs.length = n * size ∧
  ((n = 0 ∧ ∃ A, v = .slice A 0 0 ∧ ∀ a, A = some a → base ≤ a.block ∧ ∃ cur, w.heap[a.block]? = some (.cells cur e (0, 0))) ∨
   ∃ g off cap cur, v = .slice (some ⟨g, off * size, none⟩) n cap ∧ base ≤ g ∧ w.heap[g]? = some (.cells cur e (0, 0)) ∧ n ≤ cap ∧ off + cap ≤ maxLen ∧ cur.size = (off + cap) * size ∧ (cur.toList.drop (off * size)).take (n * size) = xs)
section
variable {w w1 : World} {base n size : Nat} {e : TypeId} {v : Value} {xs : List Value}
end
section
variable {P : Program}
end
namespace Kd
def Q {α : Type} (d : Kd α) (e : Nat) (w : World) (base : Nat) (ok : Nat → Prop) (v : Value) (xs : List α) : Prop :=
  (∀ k, v.ownBlock = some k → ok k) ∧ ∃ inner, QRow w base e d.sz v xs.length inner ∧ Reps (d.M w base (fun k => ok k ∧ some k ≠ v.ownBlock)) d.sz xs inner
section
variable {α : Type} {d : Kd α} {e : Nat} {w w1 W : World} {base : Nat} {ok ok' : Nat → Prop} {v : Value} {xs : List α}
end
section
variable {P : Program} {ops : Array Oper} {rest : List Oper} {o : Oper} {a : Act} {Q' : Exit → Act → World → Prop} {Kc : Act → World → Prop} {α : Type}
end
end Kd
namespace Kd
section
variable {α : Type} {d : Kd α} {e e' : Nat} {w w1 W : World} {base : Nat} {ok : Nat → Prop} {u v : Value} {xs : List α}
end
end Kd
namespace Kd
section
variable {α : Type} {d : Kd α} {e base g n cap : Nat} {ok okp : Nat → Prop} {W : World} {xs : List α}
end
end Kd
namespace Kd
section
variable {α : Type} {F : Kd α → Kd α} {sz : Nat} {E : List Nat} {hs : ∀ n, (upto F sz E n).sz = sz} {hE : ∀ n q, q ∈ (upto F sz E n).E → q ∈ E}
end
end Kd
namespace Kd
section
variable {P : Program} {ops : Array Oper} {rest : List Oper} {o : Oper} {a : Act} {Q : Exit → Act → World → Prop} {α : Type}
end
end Kd
namespace Kd
section
variable {P : Program} {ops : Array Oper} {rest : List Oper} {o : Oper} {a : Act} {Q : Exit → Act → World → Prop} {α : Type}
end
end Kd
namespace Kd
section
variable {α : Type} {k : Kd α} {w : World} {A : Option Addr} {xs : List α} {m c : Nat}
end
end Kd
section
variable {P : Program}
end
theorem ReadsInt.nil (W : World) (k : IntKind) : ReadsInt W k none ([] : List Int).length [] := ⟨rfl, by simp, fun h => absurd h (Nat.lt_irrefl 0)⟩
theorem ReadsInt.drewN {W : World} {k : IntKind} {A : Option Addr} {n : Nat} {xs : List Int} (h : ReadsInt W k A n xs) (m : Nat) : ReadsInt (W.drewN m) k A n xs := h
theorem keep_cell {w W : World} {g : Nat} (h : KeepBut w W g none) {a : Addr} {v : Value} (hc : w.cell? a = some v) (hne : a.block ≠ g) : W.cell? a = some v := by
  have := h.2 a.block (World.block_lt_of_cell? w a hc) hne (by simp)
  simpa [World.cell?, this] using hc
theorem add_block (a : Addr) (i : Nat) : (a.add i).block = a.block := by unfold Addr.add; split <;> rfl
theorem ReadsOf.nil {α : Type} (enc : α → Value) (d : α) (W : World) : ReadsOf enc d W none ([] : List α).length [] := ⟨rfl, by simp, fun h => absurd h (Nat.lt_irrefl 0)⟩
theorem ReadsOf.drewN {α : Type} {enc : α → Value} {d : α} {W : World} {A : Option Addr} {n : Nat} {xs : List α} (h : ReadsOf enc d W A n xs) (m : Nat) : ReadsOf enc d (W.drewN m) A n xs := h
theorem ReadsInt.keep {w W : World} {k : IntKind} {A : Option Addr} {n g : Nat} {xs : List Int} (h : ReadsInt w k A n xs) (hk : KeepBut w W g none) (hf : ∀ ad, A = some ad → 0 < n → ad.block ≠ g) : ReadsInt W k A n xs :=
  ⟨h.1, h.2.1, fun hn => by
    obtain ⟨ad, e, hc⟩ := h.2.2 hn
    exact ⟨ad, e, fun j hj => keep_cell hk (hc j hj) (by rw [add_block]; exact hf ad e hn)⟩⟩
theorem ReadsOf.keep {α : Type} {enc : α → Value} {d : α} {w W : World} {A : Option Addr} {n g : Nat} {xs : List α} (h : ReadsOf enc d w A n xs) (hk : KeepBut w W g none) (hf : ∀ ad, A = some ad → 0 < n → ad.block ≠ g) : ReadsOf enc d W A n xs :=
  ⟨h.1, h.2.1, fun hn => by
    obtain ⟨ad, e, hc⟩ := h.2.2 hn
    exact ⟨ad, e, fun j hj => keep_cell hk (hc j hj) (by rw [add_block]; exact hf ad e hn)⟩⟩
namespace Kd
section
variable {α β : Type} {d : Kd α} {d' : Kd β} {e e' base base' n : Nat} {ok ok' : Nat → Prop} {w W w1 W1 : World} {v u : Value} {xs : List α} {ys : List β} {A : Option Addr} {c : Nat}
end
section
variable {α : Type} {enc : α → Value} {h1 : ∀ x, (enc x).oneCell' = true} {w W : World} {A : Option Addr} {n g : Nat} {xs : List α}
end
end Kd
namespace Kd
section
variable {α : Type} {d : Kd α} {e base g : Nat} {ok : Nat → Prop} {w w1 : World} {v : Value} {xs : List α} {o : Obj}
end
end Kd
section
variable {P : Program} {ops : Array Oper} {rest : List Oper} {o : Oper} {a : Act} {Q : Exit → Act → World → Prop}
end
namespace Kd
section
variable {α : Type} {enc : α → Value} {h1 : ∀ x, (enc x).oneCell' = true} {e base g n cap : Nat} {ok : Nat → Prop} {W : World} {xs : List α}
end
end Kd
section
variable {P : Program} {ops : Array Oper} {rest : List Oper} {o : Oper} {a : Act} {Q : Exit → Act → World → Prop}
end
namespace Kd
section
variable {α : Type} {enc : α → Value} {h1 : ∀ x, (enc x).oneCell' = true} {e base g n cap : Nat} {ok : Nat → Prop} {W : World} {xs : List α}
end
end Kd
section
variable {P : Program} {ops : Array Oper} {rest : List Oper} {o : Oper} {a : Act} {Q : Exit → Act → World → Prop} {W : World}
end
section
variable {P : Program} {ops : Array Oper} {o : Oper} {a : Act} {Q : Exit → Act → World → Prop} {Kc : Act → World → Prop}
namespace Kd
variable {α : Type}
end Kd
end
inductive Vals (P : Program) (tmps : Array Value) (w : World) : List ResultVar → List Value → Prop where
  | nil : Vals P tmps w [] []
  | tmp {u : Tmp} {rs : List ResultVar} {vs : List Value} (h : Vals P tmps w rs vs) : Vals P tmps w (.tmp u :: rs) (tmps.getD u undef :: vs)
  | cell {p : Tmp} {ty : TypeId} {rs : List ResultVar} {vs : List Value} (g : Nat) (t : TypeId) (cs : Array Value) (fr : Nat × Nat) (d : TypeDesc)
      (hp : tmps.getD p undef = .pointer (some ⟨g, 0, none⟩)) (hg : w.heap[g]? = some (.cells cs t fr))
      (hu : P.underlying ty = some d) (hd : (match d with | .struct _ | .array _ _ => true | _ => false) = true) (hi : (P.info? ty).map (·.size) = some cs.size)
      (h : Vals P tmps w rs vs) : Vals P tmps w (.cell p ty :: rs) (.agg cs :: vs)
section
variable {P : Program} {tmps : Array Value} {w : World}
end
namespace Kd
section
variable {P : Program} {α : Type}
end
section
variable {P : Program} {ops : Array Oper} {rest : List Oper} {o : Oper} {a : Act} {Q : Exit → Act → World → Prop} {Kc : Act → World → Prop} {α : Type}
end
end Kd
end Go.Proofs.YthfoanmokcepcaaW.PrintWords
end
section
namespace Go.Proofs.Ythfoanmokcepcaa.H
open Go.RowKit Go.MapKept Go.Proofs.YthfoanmokcepcaaW.PrintWords
set_option linter.unusedVariables false
set_option linter.unusedSimpArgs false
variable {P : Program}
def m0 (w : World) : M :=
  { w0 := w, fix := ⟨fun k => k < w.heap.size, fun k => k < w.heap.size, fun _ h => h⟩, com := fun b o => match w.cell? ⟨b, o, none⟩ with | some v => if v.oneCell' then some v else none | none => none, loc := fun _ => none, res := fun _ => false }
theorem m0_com {w : World} {b o : Nat} {v : Value} : (m0 w).com b o = some v ↔ w.cell? ⟨b, o, none⟩ = some v ∧ v.oneCell' = true := by
  show (match w.cell? ⟨b, o, none⟩ with | some v => if v.oneCell' then some v else none | none => none) = some v ↔ _
  cases h : w.cell? ⟨b, o, none⟩ with
  | none => simp
  | some u =>
    simp only
    split
    · rename_i h1; simp only [Option.some.injEq]; constructor
      · rintro rfl; exact ⟨rfl, h1⟩
      · exact fun h => h.1
    · rename_i h1; simp only [Option.some.injEq, false_iff, not_and, reduceCtorEq]; rintro rfl; exact h1
def s0 : HS := fun _ => none
theorem rel0 (w : World) : Rel (m0 w) s0 w :=
  ⟨⟨rfl, rfl, rfl, fun k h => ⟨h, rfl⟩⟩, fun b o v h => (m0_com.1 h).1, (fun id ob l h => by cases h), (fun id ob l h => by cases h), (fun id id' ob ob' l l' h => by cases h), 0, fun id _ => ⟨rfl, rfl, rfl⟩⟩
/-- A kind's cells, as H values. -/
structure Br {α : Type} (d : Kd α) (enc : α → List HV) : Prop where
  pos : 0 < d.sz
  len : ∀ x, (enc x).length = d.sz
  rep : ∀ w x cs, d.K w x cs → Reps (m0 w) (enc x) cs
theorem reps1 {m : M} {x : HV} {v : Value} (h : Rep m x v) (ho : hone x = true) : Reps m [x] [v] :=
  ⟨fun z hz => by simp at hz; subst hz; exact ho, rfl, fun j z hj => by cases j with | zero => simp at hj; subst hj; exact h | succ j => simp at hj⟩
theorem Br.int (k : IntKind) : Br (Kd.int k) (fun n => [.lit (.int k n)]) := ⟨Nat.one_pos, fun _ => rfl, fun w x cs h => by rw [show cs = [.int k x] from h]; exact reps1 (.lit _) rfl⟩
theorem Br.bool : Br Kd.bool (fun b => [.lit (.bool b)]) := ⟨Nat.one_pos, fun _ => rfl, fun w x cs h => by rw [show cs = [.bool x] from h]; exact reps1 (.lit _) rfl⟩
theorem Br.string : Br Kd.string (fun b => [.lit (.string b)]) := ⟨Nat.one_pos, fun _ => rfl, fun w x cs h => by rw [show cs = [.string x] from h]; exact reps1 (.lit _) rfl⟩
theorem Br.pair {α β : Type} {a : Kd α} {b : Kd β} {ea : α → List HV} {eb : β → List HV} (ha : Br a ea) (hb : Br b eb) : Br (Kd.pair a b) (fun x => ea x.1 ++ eb x.2) :=
  ⟨Nat.lt_of_lt_of_le ha.pos (Nat.le_add_right _ _), fun x => by rw [List.length_append, ha.len, hb.len]; rfl, fun w x cs h => by
    obtain ⟨c0, c1, rfl, h0, h1⟩ := h
    exact (ha.rep w _ _ h0).append (hb.rep w _ _ h1)⟩
theorem flat_at {α : Type} {enc : α → List HV} {sz : Nat} (hlen : ∀ x, (enc x).length = sz) (hpos : 0 < sz) : ∀ (xs : List α) (j : Nat), (xs.flatMap enc)[j]? = (xs[j / sz]?).bind fun x => (enc x)[j % sz]?
  | [], j => by simp
  | x :: xs, j => by
    rw [List.flatMap_cons]
    by_cases h : j < sz
    · rw [List.getElem?_append_left (by rw [hlen]; exact h), Nat.div_eq_of_lt h, Nat.mod_eq_of_lt h]; simp
    · rw [List.getElem?_append_right (by rw [hlen]; omega), hlen, flat_at hlen hpos xs]
      have h1 : j / sz = (j - sz) / sz + 1 := by rw [Nat.div_eq_sub_div hpos (by omega)]
      have h2 : j % sz = (j - sz) % sz := Nat.mod_eq_sub_mod (by omega)
      rw [h1, h2]; simp
theorem flat_len {α : Type} {enc : α → List HV} {sz : Nat} (hlen : ∀ x, (enc x).length = sz) : ∀ xs : List α, (xs.flatMap enc).length = xs.length * sz
  | [] => by simp
  | x :: xs => by rw [List.flatMap_cons, List.length_append, hlen, flat_len hlen xs, List.length_cons, Nat.add_mul]; omega
theorem Br.row {α : Type} {d : Kd α} {enc : α → List HV} (h : Br d enc) {w : World} {A : Option Addr} {n c : Nat} {xs : List α} (hr : d.C w A n xs) (hc : n ≤ c) : Rep (m0 w) (.list d.sz n (xs.flatMap enc) false) (.slice A n c) := by
  obtain ⟨h1, h2, h3⟩ := hr
  rcases Nat.eq_zero_or_pos n with hn | hn
  · subst hn
    have : xs = [] := List.eq_nil_of_length_eq_zero h1
    subst this
    exact .list0 _ _ _ _ (fun h => by cases h)
  · obtain ⟨ad, rfl, hx⟩ := h3 hn
    have hlenF := flat_len h.len xs
    rw [h1] at hlenF
    -- each cell
    have key : ∀ j, j < n * d.sz → ∃ v y, w.cell? (ad.add j) = some v ∧ v.oneCell' = true ∧ (xs.flatMap enc)[j]? = some y ∧ Rep (m0 w) y v ∧ hone y = true := by
      intro j hj
      have hq : j / d.sz < xs.length := by rw [h1]; exact Nat.div_lt_of_lt_mul (by rw [Nat.mul_comm]; exact hj)
      have hxq : xs[j / d.sz]? = some xs[j / d.sz] := by simp [hq]
      obtain ⟨cs, hl, hk, hcell⟩ := hx _ _ hxq
      have hrp := h.rep w _ _ hk
      have hm : j % d.sz < cs.length := by rw [hl]; exact Nat.mod_lt _ h.pos
      have hcj : cs[j % d.sz]? = some cs[j % d.sz] := by simp [hm]
      have hm2 : j % d.sz < (enc xs[j / d.sz]).length := by rw [h.len]; exact Nat.mod_lt _ h.pos
      have hy : (enc xs[j / d.sz])[j % d.sz]? = some (enc xs[j / d.sz])[j % d.sz] := by simp [hm2]
      refine ⟨cs[j % d.sz], (enc xs[j / d.sz])[j % d.sz], ?_, d.K_one hk _ (List.getElem_mem hm), ?_, ?_, hrp.1 _ (List.getElem_mem hm2)⟩
      · have := hcell _ _ hcj
        rwa [Nat.div_add_mod' j d.sz] at this
      · rw [flat_at h.len h.pos, hxq]; exact hy
      · have := hrp.2.2 _ _ hy
        rwa [show cs.getD (j % d.sz) undef = cs[j % d.sz] from by simp [List.getD, hm]] at this
    have hspot : ad.spot = none := by
      obtain ⟨v, y, hv, -⟩ := key 0 (Nat.mul_pos hn h.pos)
      have e : ad.add 0 = ad := by unfold Addr.add; rfl
      rw [e] at hv
      unfold World.cell? at hv
      split at hv
      · split at hv
        · cases hv
        · rename_i hs; simpa using hs
      · cases hv
    obtain ⟨b, o, sp⟩ := ad
    simp only at hspot; subst hspot
    refine .list d.sz n _ false c b o (fun j => (w.cell? ⟨b, o + j, none⟩).getD undef) hc (fun h => by cases h) hlenF (fun x hx => ?_) (fun j hj => ?_) (fun j x hj => ?_)
    · obtain ⟨j, hj⟩ := List.getElem?_of_mem hx
      have hlt := (List.getElem?_eq_some_iff.1 hj).1
      obtain ⟨v, y, g1, g2, g3, g4, g5⟩ := key j (by omega)
      rw [g3] at hj; cases hj; exact g5
    · obtain ⟨v, y, g1, g2, g3, g4, g5⟩ := key j (by omega)
      rw [add_loc] at g1
      rw [g1]; exact m0_com.2 ⟨g1, g2⟩
    · have hlt := (List.getElem?_eq_some_iff.1 hj).1
      obtain ⟨v, y, g1, g2, g3, g4, g5⟩ := key j (by omega)
      rw [add_loc] at g1
      rw [g1]; rw [g3] at hj; cases hj; exact g4
theorem Br.slice {α : Type} (e : Nat) {d : Kd α} {enc : α → List HV} (h : Br d enc) : Br (Kd.slice e d) (fun xs => [.list d.sz xs.length (xs.flatMap enc) false]) :=
  ⟨Nat.one_pos, fun _ => rfl, fun w xs cs hk => by
    obtain ⟨A, c, rfl, hc, hr⟩ := hk
    exact reps1 (h.row hr hc) rfl⟩
/-- From the H layer to the law. -/
theorem law_of {f : FuncId} {args : List HV} {cargs : Array Value} {w : World} (h : HC P f args s0 fun v _ => v = .lit (.bool true)) (hn : cargs.size = args.length) (ha : ∀ (j : Nat) x, args[j]? = some x → Rep (m0 w) x (cargs.getD j undef)) :
    Calls P f cargs w fun e w' => e = .returned (.bool true) ∧ Below w.heap.size w w' := by
  refine (h (m0 w) w cargs (rel0 w) hn ha).mono ?_
  rintro e w' ⟨cv, v, s', m', rfl, h1, h2, h3, rfl⟩
  cases h3
  refine ⟨rfl, ?_⟩
  have hb := h2.below
  have hf := h1.fix
  have hkey : ∀ k, k < w.heap.size → k < w'.heap.size ∧ w'.heap[k]? = w.heap[k]? := fun k hk => ⟨(hb.block k (hf k hk).1).1, (hb.block k (hf k hk).1).2.trans (hf k hk).2⟩
  refine ⟨hb.os.trans h1.env.1, hb.tape.trans h1.env.2.1, hb.output.trans h1.env.2.2, ?_, fun k hk => (hkey k hk).2⟩
  rcases Nat.eq_zero_or_pos w.heap.size with h0 | h0
  · omega
  · have := (hkey (w.heap.size - 1) (by omega)).1
    omega
end Go.Proofs.Ythfoanmokcepcaa.H
end
section
namespace Go.Proofs.YthfoanmokcepcaaW.PrintLast
section
variable {P : Program} {ops : Array Oper} {Q : Exit → Act → World → Prop} {md : Region.Mode} {S : World → Prop} {ds : List Nat}
def ListedClosed (md : Region.Mode) (ops : Array Oper) (listed : Array Bool) : Prop :=
  ∀ j oj, ops[j]? = some oj → listed.getD j false = true → ∀ e ∈ oj.after, Region.binds md e = true → listed.getD e.on false = true
theorem ListedClosed.set {listed : Array Bool} {i : Nat} (h : ListedClosed md ops listed) (hi : i ∈ Region.ready md ops listed) : ListedClosed md ops (listed.setIfInBounds i true) := by
  obtain ⟨_, oi, hoi, hall⟩ := mem_ready.1 hi
  intro j oj hj hl e he hb
  by_cases hij : i = j
  · subst hij
    have : oj = oi := Option.some.inj (hj.symm.trans hoi)
    subst this
    exact getD_set_true (hall e he hb)
  · rw [getD_set_ne false hij] at hl
    exact getD_set_true (h j oj hj hl e he hb)
/-- Whatever order is picked from here on, AND 'S' HOLDS BEHIND EVERY OPERATION THAT IS CARRIED OUT, those of ds apart. -/
def wpAnyLast (P : Program) (md : Region.Mode) (ops : Array Oper) (Q : Exit → Act → World → Prop) (S : World → Prop) (ds : List Nat) : Nat → Array Bool → Act → World → Prop
  | 0, listed, a, w => Region.ready md ops listed = [] ∧ Q .normal a w
  | fuel + 1, listed, a, w =>
    (Region.ready md ops listed = [] → Q .normal a w) ∧
    ∀ i ∈ Region.ready md ops listed, wpOp P ops Q i (fun a' w' => (i ∉ ds → S w → S w') ∧ wpAnyLast P md ops Q S ds fuel (listed.setIfInBounds i true) a' w') a w
end
section
variable {P : Program} {ops : Array Oper} {Q : Exit → Act → World → Prop} {md : Region.Mode} {S : World → Prop} {ds : List Nat}
def AllReadyL (P : Program) (md : Region.Mode) (ops : Array Oper) (Q : Exit → Act → World → Prop) (S : World → Prop) (ds : List Nat) (fuel : Nat) (listed : Array Bool) (a : Act) (w : World) (rs : List Nat) : Prop :=
  ∀ i ∈ rs, wpOp P ops Q i (fun a' w' => (i ∉ ds → S w → S w') ∧ wpAnyLast P md ops Q S ds fuel (listed.setIfInBounds i true) a' w') a w
theorem AllReadyL.nil {fuel : Nat} {listed : Array Bool} {a : Act} {w : World} : AllReadyL P md ops Q S ds fuel listed a w [] := fun _ h => by cases h
theorem AllReadyL.cons {fuel : Nat} {listed : Array Bool} {a : Act} {w : World} {i : Nat} {o : Oper} {rs : List Nat} (ho : ops[i]? = some o) (hd : i ∉ ds)
    (h : ∀ K' : Act → World → Prop, Shut (∀ a w, S w → (S w → wpAnyLast P md ops Q S ds fuel (listed.setIfInBounds i true) a w) → K' a w) → if Region.wanted o (yielded ops a.tmps) = true then Oper.wp P o a w K' Q else K' (a.put o.dst undef) w)
    (hs : AllReadyL P md ops Q S ds fuel listed a w rs) : AllReadyL P md ops Q S ds fuel listed a w (i :: rs) := fun j hj => by
  rcases List.mem_cons.1 hj with rfl | hj
  · exact wpOp_step ho (fun K' hK => h K' (fun a w hS hW => hK a w ⟨fun _ _ => hS, hW hS⟩))
  · exact hs j hj
end
end Go.Proofs.YthfoanmokcepcaaW.PrintLast
end
section
namespace Go.Proofs.YthfoanmokcepcaaW.PrintLast
end Go.Proofs.YthfoanmokcepcaaW.PrintLast
end
section
namespace Go.Proofs.YthfoanmokcepcaaW.PrintLast
end Go.Proofs.YthfoanmokcepcaaW.PrintLast
end
section
namespace Go.Proofs.YthfoanmokcepcaaW.PrintWords
end Go.Proofs.YthfoanmokcepcaaW.PrintWords
namespace Kd
end Kd
end
section
namespace Go.Proofs.YthfoanmokcepcaaW.PrintWords
open Go.RowKit
namespace Kd
/-- An element with its index: its blocks are those that f gives to it. -/
def tag {α : Type} (f : Nat → Nat) (d : Kd α) : Kd (α × Nat) where
  sz := d.sz
  E := d.E
  K := fun w x cs => d.K w x.1 cs
  M := fun w base ok x cs => d.M w base (fun k => ok k ∧ f k = x.2) x.1 cs
  K_len := fun h => d.K_len h
  K_one := fun h => d.K_one h
  K_below := fun hb h => d.K_below hb h
  K_of_M := fun h => d.K_of_M h
  M_mono := fun hok h => d.M_mono (fun k hk => ⟨hok k hk.1, hk.2⟩) h
  M_bound := fun h => d.M_mono (fun _ hk => ⟨⟨hk.1.1, hk.2⟩, hk.1.2⟩) (d.M_bound h)
  M_move := fun hm h => d.M_move (fun k hk => hm k hk.1) h
  M_lower := fun hb h => d.M_lower hb h
/-- The cells themselves. -/
def raw (sz : Nat) : Kd (List Value) where
  sz := sz
  E := []
  K := fun _ x cs => cs = x ∧ cs.length = sz ∧ ∀ u ∈ cs, u.oneCell' = true
  M := fun _ _ _ x cs => cs = x ∧ cs.length = sz ∧ ∀ u ∈ cs, u.oneCell' = true
  K_len := fun h => h.2.1
  K_one := fun h => h.2.2
  K_below := fun _ h => h
  K_of_M := fun h => h
  M_mono := fun _ h => h
  M_bound := fun h => h
  M_move := fun _ h => h
  M_lower := fun _ h => h
/-- A row of elements (type e) of the call's own, no two of which lead to one block. -/
def S {α : Type} (d : Kd α) (e : Nat) (w : World) (base : Nat) (ok : Nat → Prop) (v : Value) (xs : List α) : Prop := ∃ f, (tag f d).R e w base ok v xs.zipIdx
section
variable {α β : Type} {d : Kd α} {d' : Kd β} {e e' : Nat} {w w1 W : World} {base b : Nat} {ok ok' okv oku : Nat → Prop} {u v : Value} {xs : List α} {ys : List β}
end
section
variable {α β : Type} {d : Kd α} {d' : Kd β} {e e' g : Nat} {w w1 W : World} {base b : Nat} {ok ok' okv oku : Nat → Prop} {u v : Value} {xs : List α} {ys : List β}
end
section
variable {P : Program} {ops : Array Oper} {rest : List Oper} {o : Oper} {a : Act} {Q : Exit → Act → World → Prop} {Kc : Act → World → Prop} {α : Type}
end
/-- Element i is these cells; the others are d's. -/
def gap {α : Type} (f : Nat → Nat) (d : Kd α) (i : Nat) (c : List Value) : Kd (α × Nat) where
  sz := d.sz
  E := d.E
  K := fun w x cs => (x.2 = i → cs = c ∧ cs.length = d.sz ∧ ∀ u ∈ cs, u.oneCell' = true) ∧ (x.2 ≠ i → d.K w x.1 cs)
  M := fun w base ok x cs => (x.2 = i → cs = c ∧ cs.length = d.sz ∧ ∀ u ∈ cs, u.oneCell' = true) ∧ (x.2 ≠ i → d.M w base (fun k => ok k ∧ f k = x.2) x.1 cs)
  K_len := fun {w x cs} h => by
    by_cases hx : x.2 = i
    · exact (h.1 hx).2.1
    · exact d.K_len (h.2 hx)
  K_one := fun {w x cs} h => by
    by_cases hx : x.2 = i
    · exact (h.1 hx).2.2
    · exact d.K_one (h.2 hx)
  K_below := fun hb h => ⟨h.1, fun hx => d.K_below hb (h.2 hx)⟩
  K_of_M := fun h => ⟨h.1, fun hx => d.K_of_M (h.2 hx)⟩
  M_mono := fun hok h => ⟨h.1, fun hx => d.M_mono (fun k hk => ⟨hok k hk.1, hk.2⟩) (h.2 hx)⟩
  M_bound := fun h => ⟨h.1, fun hx => d.M_mono (fun _ hk => ⟨⟨hk.1.1, hk.2⟩, hk.1.2⟩) (d.M_bound (h.2 hx))⟩
  M_move := fun hm h => ⟨h.1, fun hx => d.M_move (fun k hk => hm k hk.1) (h.2 hx)⟩
  M_lower := fun hb h => ⟨h.1, fun hx => d.M_lower hb (h.2 hx)⟩
def H {α : Type} (d : Kd α) (e : Nat) (w : World) (base : Nat) (ok : Nat → Prop) (v : Value) (xs : List α) (i : Int) (oki : Nat → Prop) (c : List Value) : Prop :=
  (∀ k, oki k → ok k) ∧ ∃ f, (gap f d i.toNat c).R e w base (fun k => ok k ∧ ¬ oki k) v xs.zipIdx
section
variable {α β : Type} {d : Kd α} {e e' g n cap : Nat} {w w1 W : World} {base : Nat} {ok ok' oki okp : Nat → Prop} {u v : Value} {xs : List α} {i : Int} {c : List Value}
end
section
variable {P : Program} {ops : Array Oper} {rest : List Oper} {o : Oper} {a : Act} {Q : Exit → Act → World → Prop} {α : Type}
end
end Kd
end Go.Proofs.YthfoanmokcepcaaW.PrintWords
end
section
namespace Go.Proofs.YthfoanmokcepcaaW.PrintWords
end Go.Proofs.YthfoanmokcepcaaW.PrintWords
namespace Kd
end Kd
end
section
namespace Go.Proofs.YthfoanmokcepcaaW.PrintWords
end Go.Proofs.YthfoanmokcepcaaW.PrintWords
namespace Kd
end Kd
end
section
namespace Go.Proofs.YthfoanmokcepcaaW.PrintWords
open Go.RowKit
namespace Kd
/-- What a kind reads lies in the blocks: nothing else of the world is looked at. -/
structure Heap {α : Type} (d : Kd α) : Prop where
  K : ∀ {w w1 : World} {x : α} {cs : List Value}, (∀ k, k < w.heap.size → w1.heap[k]? = w.heap[k]?) → d.K w x cs → d.K w1 x cs
theorem cell_heap {w w1 : World} (hb : ∀ k, k < w.heap.size → w1.heap[k]? = w.heap[k]?) {a : Addr} {v : Value} (h : w.cell? a = some v) : w1.cell? a = some v := by
  have := hb a.block (World.block_lt_of_cell? w a h)
  simpa [World.cell?, this] using h
theorem Heap.C {α : Type} {d : Kd α} (hd : Heap d) {w w1 : World} {A : Option Addr} {n : Nat} {xs : List α} (hb : ∀ k, k < w.heap.size → w1.heap[k]? = w.heap[k]?) (h : d.C w A n xs) : d.C w1 A n xs :=
  ⟨h.1, h.2.1, fun hn => by
    obtain ⟨ad, e, hc⟩ := h.2.2 hn
    refine ⟨ad, e, fun j p hj => ?_⟩
    obtain ⟨c, hs, hr, hcell⟩ := hc j p hj
    exact ⟨c, hs, hd.K hb hr, fun i u hu => cell_heap hb (hcell i u hu)⟩⟩
section
variable {α : Type} {d : Kd α} {e base g n c : Nat} {ok : Nat → Prop} {w w0 W : World} {A : Option Addr} {xs : List α}
end
end Kd
end Go.Proofs.YthfoanmokcepcaaW.PrintWords
end
section
namespace Go.Proofs.YthfoanmokcepcaaW.PrintWords
open Go.RowKit
def Kept (w W : World) (S : Nat → Prop) : Prop := w.heap.size ≤ W.heap.size ∧ ∀ i, i < w.heap.size → ¬ S i → W.heap[i]? = w.heap[i]?
section
variable {w W W2 : World} {S S2 S' : Nat → Prop}
theorem Kept.refl (w : World) (S : Nat → Prop) : Kept w w S := ⟨Nat.le_refl _, fun _ _ _ => rfl⟩
theorem Kept.of_below (h : Below w.heap.size w W) (S : Nat → Prop) : Kept w W S := ⟨h.size, fun i hi _ => h.block i hi⟩
theorem Kept.mono (h : Kept w W S) (hs : ∀ k, S k → S' k) : Kept w W S' := ⟨h.1, fun i hi hn => h.2 i hi (fun hk => hn (hs i hk))⟩
theorem Kept.then_ (h : Kept w W S) (k : Kept W W2 S2) (hs : ∀ k, S2 k → S k ∨ w.heap.size ≤ k) : Kept w W2 S :=
  ⟨Nat.le_trans h.1 k.1, fun i hi hn => (k.2 i (Nat.lt_of_lt_of_le hi h.1) (fun h2 => (hs i h2).elim hn (fun h3 => by omega))).trans (h.2 i hi hn)⟩
theorem Kept.below (h : Kept w W S) (hb : Below W.heap.size W W2) : Kept w W2 S := h.then_ (Kept.of_below hb (fun _ => False)) (fun _ hk => hk.elim)
theorem Kept.alloc (h : Kept w W S) (o : Obj) : Kept w (W.alloc o) S := h.below (below_alloc (Below.refl _ _) o)
theorem Kept.drew (h : Kept w W S) : Kept w W.drew S := h
theorem Kept.drewN (h : Kept w W S) (m : Nat) : Kept w (W.drewN m) S := h
theorem Kept.setCell (h : Kept w W S) {p : Addr} (hp : S p.block ∨ w.heap.size ≤ p.block) (u : Value) : Kept w (W.setCell p u) S :=
  h.then_ (S2 := fun k => k = p.block) ⟨by simp [World.setCell], fun i _ hn => Below.heap_setCell W p u i hn⟩ (fun k hk => by rw [hk]; exact hp)
/-- Beside a state: what was written is new since. -/
theorem Kept.keep {g : Nat} (h : KeepBut w W g none) (k : Kept W W2 S2) (hs : ∀ k, S2 k → w.heap.size ≤ k) : KeepBut w W2 g none :=
  ⟨Nat.le_trans h.1 k.1, fun i hi hg hr => (k.2 i (Nat.lt_of_lt_of_le hi h.1) (fun h2 => by have := hs i h2; omega)).trans (h.2 i hi hg hr)⟩
end
namespace Kd
section
variable {α : Type} {d : Kd α} {e base n c : Nat} {ok oki S S2 : Nat → Prop} {w w0 W W1 W2 : World} {v : Value} {A : Option Addr} {xs : List α} {i : Int} {cs : List Value}
end
end Kd
end Go.Proofs.YthfoanmokcepcaaW.PrintWords
end
section
namespace Go.Proofs.YthfoanmokcepcaaW.PrintWords
open Go.RowKit
/-- P holds in W and in every world that has W's blocks of ok. -/
def Foot (P : World → Prop) (W : World) (ok : Nat → Prop) : Prop := ∀ W' : World, (∀ k, ok k → k < W.heap.size → W'.heap[k]? = W.heap[k]?) → P W'
theorem heap_lt {W W1 : World} {k : Nat} (h : W1.heap[k]? = W.heap[k]?) (hlt : k < W.heap.size) : k < W1.heap.size := by
  rw [Array.getElem?_eq_getElem hlt] at h
  exact (Array.getElem?_eq_some_iff.1 h).1
namespace Foot
variable {P Q : World → Prop} {W W1 : World} {ok ok' : Nat → Prop}
theorem now (h : Foot P W ok) : P W := h W (fun _ _ _ => rfl)
theorem mono (h : Foot P W ok) (hok : ∀ k, ok k → ok' k) : Foot P W ok' := fun W' hW => h W' (fun k hk hlt => hW k (hok k hk) hlt)
theorem bound (h : Foot P W ok) : Foot P W (fun k => ok k ∧ k < W.heap.size) := fun W' hW => h W' (fun k hk hlt => hW k ⟨hk, hlt⟩ hlt)
theorem step (h : Foot P W ok) (hm : ∀ k, ok k → k < W.heap.size → W1.heap[k]? = W.heap[k]?) : Foot P W1 ok := fun W' hW => h W' (fun k hk hlt => (hW k hk (heap_lt (hm k hk hlt) hlt)).trans (hm k hk hlt))
theorem imp (h : Foot P W ok) (hi : ∀ W', P W' → Q W') : Foot Q W ok := fun W' hW => hi W' (h W' hW)
/-- Moved, and still elder than what is new since W. -/
theorem old (h : Foot P W ok) (hb : Below W.heap.size W W1) : Foot P W1 (fun k => ok k ∧ k < W.heap.size) := (h.bound).step (fun k _ hlt => hb.block k hlt)
end Foot
namespace Kd
/-- A row that is only read: what it leads to lies in ok. -/
def F {α : Type} (d : Kd α) (W : World) (ok : Nat → Prop) (A : Option Addr) (n : Nat) (xs : List α) : Prop := Foot (fun W => d.C W A n xs) W ok
/-- An element's cells: what they lead to lies in ok. -/
def FK {α : Type} (d : Kd α) (W : World) (ok : Nat → Prop) (x : α) (c : List Value) : Prop := Foot (fun W => d.K W x c) W ok
section
variable {α β : Type} {d : Kd α} {e base n n' cc g N : Nat} {ok ok' okp S : Nat → Prop} {w w0 w1 W W1 : World} {A A' : Option Addr} {u v v1 : Value} {xs : List α} {xs' : List β} {d' : Kd β} {x : α} {c : List Value}
end
end Kd
end Go.Proofs.YthfoanmokcepcaaW.PrintWords
end
section
namespace Go.Proofs.YthfoanmokcepcaaW.PrintWords
open Go.RowKit
namespace Kd
section
variable {α : Type} {d : Kd α} {e base n cc g : Nat} {ok ok' okp S : Nat → Prop} {w w1 W W1 : World} {A : Option Addr} {u v v1 : Value} {xs : List α} {x : α} {c : List Value}
/-- A row of elements (type e) of the call's own; what the elements lead to is only read, and is not this row. -/
def N {α : Type} (d : Kd α) (e : Nat) (w : World) (base : Nat) (ok : Nat → Prop) (v : Value) (xs : List α) : Prop :=
  (∀ k, v.ownBlock = some k → ok k) ∧ ∃ rows : List (List Value), rows.length = xs.length ∧ (raw d.sz).R e w base (fun k => some k = v.ownBlock) v rows ∧ ∀ (j : Nat) (x : α) (c : List Value), xs[j]? = some x → rows[j]? = some c → FK d w (fun k => ok k ∧ some k ≠ v.ownBlock) x c
end
end Kd
end Go.Proofs.YthfoanmokcepcaaW.PrintWords
end
section
namespace Go.Proofs.YthfoanmokcepcaaW.PrintWords
end Go.Proofs.YthfoanmokcepcaaW.PrintWords
namespace Kd
end Kd
end
section
namespace Go.Proofs.YthfoanmokcepcaaW.PrintWords
end Go.Proofs.YthfoanmokcepcaaW.PrintWords
namespace Kd
end Kd
end
section
namespace Go.Proofs.YthfoanmokcepcaaW.PrintWords
end Go.Proofs.YthfoanmokcepcaaW.PrintWords
end
section
namespace Go.Proofs.YthfoanmokcepcaaW.PrintWords
/-- One cell an element. -/
theorem Reps.one {α : Type} {R : α → List Value → Prop} {ps : List α} {cs : List Value} {p : α} {v : Value} (hp : R p [v]) (h : Reps R 1 ps cs) : Reps R 1 (p :: ps) (v :: cs) := by
  refine ⟨by simp [h.1], fun j q hq => ?_⟩
  cases j with
  | zero =>
    simp only [List.getElem?_cons_zero, Option.some.injEq] at hq
    subst hq
    simpa using hp
  | succ j =>
    simp only [List.getElem?_cons_succ] at hq
    have h1 := h.2 j q hq
    simpa [Nat.mul_one] using h1
/-- More cells an element: told apart by the cells' list. -/
theorem Reps.front {α : Type} {R : α → List Value → Prop} {size : Nat} {ps : List α} {cs c all : List Value} {p : α} (hp : R p c) (hc : c.length = size) (h : Reps R size ps cs) (ha : c ++ cs = all) : Reps R size (p :: ps) all := by
  subst ha
  refine ⟨by rw [List.length_append, hc, h.1, List.length_cons, Nat.succ_mul, Nat.add_comm], fun j q hq => ?_⟩
  cases j with
  | zero =>
    simp only [List.getElem?_cons_zero, Option.some.injEq] at hq
    subst hq
    rw [Nat.zero_mul, List.drop_zero, List.take_append_of_le_length (by omega), List.take_of_length_le (by omega)]
    exact hp
  | succ j =>
    simp only [List.getElem?_cons_succ] at hq
    have h1 := h.2 j q hq
    rw [Nat.succ_mul, List.drop_append, List.drop_of_length_le (by rw [hc]; exact Nat.le_add_left _ _), List.nil_append, hc, Nat.add_sub_cancel]
    exact h1
theorem Reps.c2 {α : Type} {R : α → List Value → Prop} {ps : List α} {cs : List Value} {p : α} {va vb : Value} (hp : R p [va, vb]) (h : Reps R 2 ps cs) : Reps R 2 (p :: ps) (va :: vb :: cs) := Reps.front hp rfl h rfl
theorem Reps.c3 {α : Type} {R : α → List Value → Prop} {ps : List α} {cs : List Value} {p : α} {va vb vc : Value} (hp : R p [va, vb, vc]) (h : Reps R 3 ps cs) : Reps R 3 (p :: ps) (va :: vb :: vc :: cs) := Reps.front hp rfl h rfl
theorem Reps.c4 {α : Type} {R : α → List Value → Prop} {ps : List α} {cs : List Value} {p : α} {va vb vc vd : Value} (hp : R p [va, vb, vc, vd]) (h : Reps R 4 ps cs) : Reps R 4 (p :: ps) (va :: vb :: vc :: vd :: cs) := Reps.front hp rfl h rfl
theorem Reps.c5 {α : Type} {R : α → List Value → Prop} {ps : List α} {cs : List Value} {p : α} {va vb vc vd ve : Value} (hp : R p [va, vb, vc, vd, ve]) (h : Reps R 5 ps cs) : Reps R 5 (p :: ps) (va :: vb :: vc :: vd :: ve :: cs) := Reps.front hp rfl h rfl
end Go.Proofs.YthfoanmokcepcaaW.PrintWords
end
section
namespace Go.Proofs.YthfoanmokcepcaaW.PrintLast
/-- Number i is listed too. -/
def up (b : Nat → Bool) (i : Nat) : Nat → Bool := fun j => if j = i then true else b j
section
variable {P : Program} {ops : Array Oper} {Q : Exit → Act → World → Prop} {md : Region.Mode} {T : Bool × List (List Nat × List Nat)} {B : List Nat} {O : List Nat} {b : Nat → Bool} {i j n : Nat}
end
end Go.Proofs.YthfoanmokcepcaaW.PrintLast
end
section
namespace Go.Proofs.YthfoanmokcepcaaW.PrintWords
end Go.Proofs.YthfoanmokcepcaaW.PrintWords
namespace Go.Proofs.YthfoanmokcepcaaW.PrintLast
end Go.Proofs.YthfoanmokcepcaaW.PrintLast
end
section
namespace Go.Proofs.YthfoanmokcepcaaW.PrintWords
end Go.Proofs.YthfoanmokcepcaaW.PrintWords
end
section
namespace Go.Proofs.YthfoanmokcepcaaW.PrintWords
end Go.Proofs.YthfoanmokcepcaaW.PrintWords
namespace Kd
end Kd
end
section
namespace Go.Proofs.YthfoanmokcepcaaW.PrintMore
open Go.RowKit Go.Proofs.YthfoanmokcepcaaW.PrintWords
namespace Kd
open Go.Proofs.YthfoanmokcepcaaW.PrintWords.Kd
end Kd
namespace Kd
open Go.Proofs.YthfoanmokcepcaaW.PrintWords.Kd
section
variable {α : Type} {d : Kd α} {e base g N : Nat} {ok : Nat → Prop} {W w1 : World} {u v : Value} {xs : List α}
end
end Kd
end Go.Proofs.YthfoanmokcepcaaW.PrintMore
namespace Go.Proofs.YthfoanmokcepcaaW.PrintWords
open Go.RowKit
section
variable {P : Program} {ops : Array Oper} {rest : List Oper} {o : Oper} {a : Act} {Q : Exit → Act → World → Prop} {W : World}
end
/-- The greater of two whole numbers, as Go's max tells it. -/
def mx (a b : Int) : Int := if a < b then b else a
/-- The smaller of two whole numbers, as Go's min tells it. -/
def mn (a b : Int) : Int := if b < a then b else a
/-- A shift to the left, as Go tells it: a count beyond the width leaves nothing. -/
def shl (k : IntKind) (x y : Int) : Int := k.wrap (x * 2 ^ min y.toNat k.bits)
/-- A shift to the right: a count beyond the width leaves the sign. -/
def shr (k : IntKind) (x y : Int) : Int := x / 2 ^ min y.toNat k.bits
namespace Kd
section
variable {α : Type} {d : Kd α} {e base : Nat} {ok : Nat → Prop} {W w1 : World} {v : Value} {xs : List α}
end
section
variable {α : Type} {d : Kd α} {e base g n cap : Nat} {ok oki okp : Nat → Prop} {W : World} {xs : List α} {i : Int} {c : List Value}
end
section
variable {α : Type} {d : Kd α} {e base b b' g N : Nat} {ok ok1 : Nat → Prop} {W W2 w1 : World} {u v : Value} {xs ys : List α} {S : Nat → Prop}
end
end Kd
end Go.Proofs.YthfoanmokcepcaaW.PrintWords
namespace Go.Proofs.YthfoanmokcepcaaW.PrintWords
open Go.RowKit
namespace Kd
section
variable {α β : Type} {d : Kd α} {e base base' n m c g N' lo hi : Nat} {ok ok' S : Nat → Prop} {w W w1 : World} {A : Option Addr} {ad : Addr} {u v v1 : Value} {xs : List α}
end
end Kd
end Go.Proofs.YthfoanmokcepcaaW.PrintWords
end
section
namespace Go.Proofs.Ythfoanmokcepcaa.CK
open Go.RowKit Go.Proofs.YthfoanmokcepcaaW.PrintWords Go.Proofs.YthfoanmokcepcaaW.PrintLast Go.Proofs.YthfoanmokcepcaaW.PrintMore
set_option linter.unusedVariables false
structure S55 where
  f0 : Int
  f1 : ByteArray
  f2 : ByteArray
  f3 : (List Int)
  f4 : Int
end Go.Proofs.Ythfoanmokcepcaa.CK
end
section
namespace Go.Proofs.Ythfoanmokcepcaa.DS
open Go.Proofs.Ythfoanmokcepcaa.H Go.Proofs.Ythfoanmokcepcaa.AS Go.RowKit Go.Proofs.YthfoanmokcepcaaW.PrintWords Go.Proofs.Ythfoanmokcepcaa.CK
set_option linter.unusedVariables false
theorem flat_one (k : IntKind) (l : List Int) : l.flatMap (fun n => ([.lit (.int k n)] : List HV)) = l.map fun n => .lit (.int k n) := by
  induction l with
  | nil => rfl
  | cons x r ih => simp only [List.flatMap_cons, ih]; rfl
theorem repBytes {w : World} {A : Option Addr} {c : Nat} {l : List Int} (hr : Kd.C (Kd.int .u8) w A l.length l) (hc : l.length ≤ c) : Rep (H.m0 w) (byV l) (.slice A l.length c) := by
  have := (Br.int .u8).row hr hc
  rw [flat_one] at this
  exact this
end Go.Proofs.Ythfoanmokcepcaa.DS
end
section
namespace Go.Proofs.Ythfoanmokcepcaa.XRW
open Go.Proofs.Ythfoanmokcepcaa.H Go.Proofs.Ythfoanmokcepcaa.AS Go.RowKit Go.Proofs.YthfoanmokcepcaaW.PrintWords Go.Proofs.YthfoanmokcepcaaW.PrintLast Go.Proofs.YthfoanmokcepcaaW.PrintMore Go.Proofs.Ythfoanmokcepcaa.CK
set_option linter.unusedVariables false
set_option linter.unusedSimpArgs false
theorem diskNothing_walk (a0 : ByteArray) (A1 : Option Addr) (c1 : Nat) (l1 : List Int) (w : World) (hc1 : l1.length ≤ c1) (hr1 : Kd.C (Kd.int .u8) w A1 l1.length l1) (q0 : a0.size ≤ 140737488351232) (q1 : (l1.length ≤ maxLen ∧ ∀ x_ ∈ l1, (Lit.int .u8 x_).wf = true)) :
    Calls Try.prog 5 #[.string a0, .slice A1 l1.length c1] w fun e w' => e = .returned (.bool true) ∧ Below w.heap.size w w' := by
  obtain ⟨⟨n⟩⟩ := a0
  refine law_of (DS.nothing_law n l1 s0) rfl ?_
  intro j x hj
  rcases j with _ | _ | j <;> simp at hj
  · subst hj; exact .lit _
  · subst hj; exact DS.repBytes hr1 hc1
end Go.Proofs.Ythfoanmokcepcaa.XRW
end
section
namespace Go.Proofs.YthfoanmokcepcaaW.Opens
open Go.RowKit Go.WideShapes Go.Proofs.YthfoanmokcepcaaW.PrintWords
/-- Whatever can be read as a value of type t is a value of kind d, of which Q holds. -/
def Opens (P : Program) (t : TypeId) {α : Type} (d : Kd α) (Q : α → Prop) : Prop :=
  ∀ {H : Type} (enc : TypeId × Value → H) (w : World) (base : Nat) (spare : Nat → Bool) (held : Bool) (fuel : Nat) (cs : List Value) (x : DataW H × List MemPlace),
    DataW.trod enc P w base spare held fuel t cs = some x → ∃ a : α, d.K w a cs ∧ Q a
variable {P : Program} {α β : Type}
theorem opens_int {t : TypeId} {k : IntKind} (ht : P.underlying t = some (.int k)) : Opens P t (Kd.int k) (fun n => (Lit.int k n).wf = true) := by
  intro H enc w base spare held fuel cs x h
  obtain ⟨n, rfl, _, hw⟩ := DataW.trod_int ht h
  exact ⟨n, rfl, hw⟩
theorem add_of_add (a : Addr) (i j : Nat) : (a.add i).add j = a.add (i + j) := by
  unfold Addr.add
  by_cases hi : i = 0 <;> by_cases hj : j = 0 <;> simp [hi, hj, Nat.add_assoc]
theorem opens_slice {t e : TypeId} (n : Nat) (ht : P.underlying t = some (.slice e)) {d : Kd α} {Q : α → Prop} (hs : P.cellsOf e = d.sz) (he : Opens P e d Q) :
    Opens P t (Kd.slice n d) (fun l => l.length ≤ maxLen ∧ ∀ x ∈ l, Q x) := by
  intro H enc w base spare held fuel cs x h
  rcases DataW.trod_slice ht h with ⟨rfl, _⟩ | ⟨a, len, cap, elems, rest, n', _, rfl, _, _, hl, hm, hlen, hel, _, _⟩
  · exact ⟨[], ⟨none, 0, rfl, Nat.le_refl _, Kd.C_nil _ _⟩, by simp, fun x hx => by simp at hx⟩
  · have each : ∀ i : Fin len, ∃ (x : α) (c : List Value), d.K w x c ∧ Q x ∧ ∀ j u, c[j]? = some u → w.cell? (a.add (i.val * d.sz + j)) = some u := by
      intro i
      have h1 := hel i.val i.isLt
      rw [List.getElem?_eq_getElem (by omega), Option.bind_eq_some_iff] at h1
      obtain ⟨c, hc, hy⟩ := h1
      obtain ⟨x, hK, hQ⟩ := he enc w base spare held n' c _ hy
      obtain ⟨_, hcl, hcc⟩ := World.cells?_some hc
      refine ⟨x, c, hK, hQ, fun j u hu => ?_⟩
      have hj : j < c.length := by
        rcases Nat.lt_or_ge j c.length with hlt | hge
        · exact hlt
        · rw [List.getElem?_eq_none hge] at hu; cases hu
      have := hcc j (by omega)
      rw [add_of_add, hs] at this
      rw [this, hu]
    let f : Fin len → α := fun i => Classical.choose (each i)
    have hf : ∀ i : Fin len, ∃ c : List Value, d.K w (f i) c ∧ Q (f i) ∧ ∀ j u, c[j]? = some u → w.cell? (a.add (i.val * d.sz + j)) = some u := fun i => Classical.choose_spec (each i)
    have hlen' : (List.ofFn f).length = len := List.length_ofFn
    have hget : ∀ j p, (List.ofFn f)[j]? = some p → ∃ hj : j < len, p = f ⟨j, hj⟩ := by
      intro j p hp
      have hj : j < len := by
        rcases Nat.lt_or_ge j len with hlt | hge
        · exact hlt
        · rw [List.getElem?_eq_none (by omega)] at hp; cases hp
      rw [List.getElem?_eq_getElem (by omega), List.getElem_ofFn] at hp
      exact ⟨hj, (Option.some.inj hp).symm⟩
    refine ⟨List.ofFn f, ⟨some a, cap, by rw [hlen'], by omega, hlen'.symm ▸ ?_⟩, by omega, ?_⟩
    · refine ⟨hlen', ?_, fun _ => ⟨a, rfl, fun j p hp => ?_⟩⟩
      · unfold maxLen at hm; omega
      · obtain ⟨hj, rfl⟩ := hget j p hp
        obtain ⟨c, hK, _, hc⟩ := hf ⟨j, hj⟩
        exact ⟨c, d.K_len hK, hK, fun i u hu => hc i u hu⟩
    · intro x hx
      obtain ⟨j, hj⟩ := List.getElem?_of_mem hx
      obtain ⟨hj', rfl⟩ := hget j x hj
      exact (hf ⟨j, hj'⟩).choose_spec.2.1
/-- A parameter that is a slice. -/
theorem open_slice {t e : TypeId} {n : Nat} {d : Kd α} {Q : List α → Prop} (ht : P.underlying t = some (.slice e)) (h : Opens P t (Kd.slice n d) Q) {H : Type} {enc : TypeId × Value → H} {w : World} {base base' : Nat} {spare : Nat → Bool} {held : Bool} {r : Reach} {v : Value} {x : DataW H} {ps : List MemPlace}
    (hv : Value.okWide P w r base' t v) (hx : DataW.Trod enc P w base spare held t v x ps) : ∃ (A : Option Addr) (c : Nat) (l : List α), v = .slice A l.length c ∧ l.length ≤ c ∧ d.C w A l.length l ∧ Q l := by
  obtain ⟨a, len, cap, rfl⟩ := okWide_slice ht hv
  obtain ⟨fuel, hf⟩ := hx
  obtain ⟨l, ⟨A, c, hc, hl, hC⟩, hQ⟩ := h enc w base spare held fuel _ _ hf
  have : (Value.slice a len cap) = .slice A l.length c := by simpa [Value.cells] using hc
  exact ⟨A, c, l, this, hl, hC, hQ⟩
end Go.Proofs.YthfoanmokcepcaaW.Opens
end
