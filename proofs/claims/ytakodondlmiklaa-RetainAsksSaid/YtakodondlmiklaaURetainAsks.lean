/- The sums, the front and the small cases of the laws on lists of segments: plain facts. -/
import Derived.Test.YtakodondlmiklaaPRetainAsksx7
namespace Go.Proofs.Ytakodondlmiklaa.PRetainAsksU
open Go.RowKit Go.Proofs.Ytakodondlmiklaa.PRetainAsks Go.Proofs.YtakodondlmiklaaW.PrintWords Go.Proofs.YtakodondlmiklaaW.PrintLast Go.Proofs.YtakodondlmiklaaW.PrintMore

theorem w64 {x : Int} (h0 : -9223372036854775808 ≤ x) (h1 : x < 9223372036854775808) : wrap64 x = x := by
  unfold wrap64
  rw [Int.emod_eq_of_lt (by omega) (by omega)]
  omega
theorem wu64 (n : Int) : IntKind.u64.wrap n = n % 18446744073709551616 := by simp [IntKind.wrap, IntKind.bits, IntKind.signed]

theorem awake_f (k : Nat) (hk : 40 ≤ k) : cordwainlaw11_awake.f k = some true := at_rounds cordwainlaw11_awake.mono hk (by decide +kernel)

theorem succ_of {n k : Nat} (h : n + 1 ≤ k) : ∃ q, k = q + 1 ∧ n ≤ q := ⟨k - 1, by omega, by omega⟩

def hold (n : Int) : Int := mn (mx n 0) 1125899906842624
theorem hold_f (n : Int) : retain_hold.f n = some (hold n) := rfl
theorem hold_range (n : Int) : 0 ≤ hold n ∧ hold n ≤ 1125899906842624 := by
  unfold hold mn mx
  by_cases h : n < 0
  · rw [if_pos h]; split <;> omega
  · rw [if_neg h]; split <;> omega
theorem hold_id {n : Int} (h0 : 0 ≤ n) (h1 : n ≤ 1125899906842624) : hold n = n := by
  unfold hold mn mx
  rw [if_neg (by omega), if_neg (by omega)]
theorem hold_pos {n : Int} (h0 : 0 ≤ n) : mn n 1125899906842624 = hold n := by
  unfold hold
  rw [show mx n 0 = n from by unfold mx; rw [if_neg (by omega)]]

theorem old_f {now since age : Int} (h0 : 0 ≤ now ∧ now ≤ 1125899906842624) (h1 : 0 ≤ since ∧ since ≤ 1125899906842624) (h2 : age < 9223372036854775808) : retain_old.f now since age = some (decide (age > 0 ∧ now - since > age)) := by
  obtain ⟨a0, a1⟩ := h0; obtain ⟨b0, b1⟩ := h1
  unfold retain_old.f
  by_cases ha : age > 0
  · rw [if_pos ha]
    by_cases hb : now > since
    · rw [if_pos hb, wu64, wu64, wu64, wu64]
      congr 1
      rw [decide_eq_decide]
      omega
    · rw [if_neg hb]
      congr 1
      rw [eq_comm, decide_eq_false_iff_not]
      omega
  · rw [if_neg ha]
    congr 1
    rw [eq_comm, decide_eq_false_iff_not]
    omega

def conv (x : S42) : S51 := ⟨x.f0, x.f1, x.f2, x.f3, x.f4⟩
theorem rd_mid (p d : List S42) (x : S42) : rd_T42 (p ++ x :: d) (p.length : Int) = x := by simp [rd_T42, List.getD]
theorem rd_conv (l : List S42) (i : Int) : rd_T51 (l.map conv) i = conv (rd_T42 l i) := by
  simp only [rd_T51, rd_T42, List.getD, List.getElem?_map]
  cases l[i.toNat]? <;> rfl
theorem rd_mem {l : List S42} {i : Int} (h0 : 0 ≤ i) (h1 : i < l.length) : rd_T42 l i ∈ l := by
  have h : i.toNat < l.length := by omega
  simp only [rd_T42, List.getD, List.getElem?_eq_getElem h, Option.getD_some]
  exact List.getElem_mem h

def sumL : Int → List S42 → Int
  | a, [] => a
  | a, x :: d => sumL (hold (a + hold x.f2)) d

theorem rsum : ∀ (d p l : List S42) (k : Nat) (acc : Int), l = p ++ d → l.length ≤ 60 → d.length + 1 ≤ k → 0 ≤ acc → acc ≤ 1125899906842624 →
    retain_Sum.l0 k acc (l.map conv) (l.length : Int) (p.length : Int) = some (sumL acc d)
  | [], p, l, k, acc, e, hl, hk, h0, h1 => by
    obtain ⟨k, rfl, hk⟩ := succ_of hk
    simp only [retain_Sum.l0]
    rw [if_neg (by subst e; simp)]; rfl
  | x :: d, p, l, k, acc, e, hl, hk, h0, h1 => by
    obtain ⟨k, rfl, hk⟩ := succ_of hk
    have hn : l.length = p.length + d.length + 1 := by subst e; simp; omega
    have hx : rd_T42 l (p.length : Int) = x := by subst e; exact rd_mid p d x
    have hh := hold_range x.f2
    have ih := rsum d (p ++ [x]) l k (hold (acc + hold x.f2)) (by subst e; simp) hl (by simpa using hk) (hold_range _).1 (hold_range _).2
    simp only [retain_Sum.l0]
    rw [if_pos (by omega), if_pos (by omega), if_pos (by rw [List.length_map]; omega), rd_conv, hx, hold_f, Option.bind_some, hold_f, Option.bind_some,
      w64 (x := acc + hold (conv x).f2) (by show _ ≤ acc + hold x.f2; omega) (by show acc + hold x.f2 < _; omega), w64 (by omega) (by omega)]
    rw [show ((p.length : Int) + 1) = ((p ++ [x]).length : Int) from by simp]
    exact ih

theorem rsum_f (l : List S42) (k : Nat) (hl : l.length ≤ 60) (hk : 61 ≤ k) : retain_Sum.f k (l.map conv) = some (sumL 0 l) := by
  unfold retain_Sum.f
  rw [List.length_map]
  exact rsum l [] l k 0 rfl hl (by omega) (by omega) (by omega)

theorem fsum : ∀ (d p l : List S42) (k : Nat) (acc : Int), l = p ++ d → l.length ≤ 60 → d.length + 1 ≤ k → 0 ≤ acc → acc ≤ 1125899906842624 →
    cordwainref10_Sum.l0 k l acc (p.length : Int) = some (sumL acc d)
  | [], p, l, k, acc, e, hl, hk, h0, h1 => by
    obtain ⟨k, rfl, hk⟩ := succ_of hk
    simp only [cordwainref10_Sum.l0]
    rw [if_neg (by subst e; simp)]; rfl
  | x :: d, p, l, k, acc, e, hl, hk, h0, h1 => by
    obtain ⟨k, rfl, hk⟩ := succ_of hk
    have hn : l.length = p.length + d.length + 1 := by subst e; simp; omega
    have hx : rd_T42 l (p.length : Int) = x := by subst e; exact rd_mid p d x
    have hh := hold_range x.f2
    have ih := fsum d (p ++ [x]) l k (hold (acc + hold x.f2)) (by subst e; simp) hl (by simpa using hk) (hold_range _).1 (hold_range _).2
    simp only [cordwainref10_Sum.l0]
    rw [if_pos (by omega), if_pos (by omega), hx]
    rw [show mn (mx x.f2 0) 1125899906842624 = hold x.f2 from rfl, w64 (x := acc + hold x.f2) (by omega) (by omega), w64 (by omega) (by omega), hold_pos (by omega)]
    rw [show ((p.length : Int) + 1) = ((p ++ [x]).length : Int) from by simp]
    exact ih

theorem fsum_f (l : List S42) (k : Nat) (hl : l.length ≤ 60) (hk : 61 ≤ k) : cordwainref10_Sum.f k l = some (sumL 0 l) := by
  unfold cordwainref10_Sum.f
  exact fsum l [] l k 0 rfl hl (by omega) (by omega) (by omega)

theorem made_l : ∀ (d p l : List S42) (k : Nat), l = p ++ d → l.length ≤ 60 → d.length + 1 ≤ k →
    cordwainlaw11_made.l0 k l (p.map conv) (p.length : Int) = some (l.map conv)
  | [], p, l, k, e, hl, hk => by
    obtain ⟨k, rfl, hk⟩ := succ_of hk
    simp only [cordwainlaw11_made.l0]
    rw [if_neg (by subst e; simp)]; subst e; simp
  | x :: d, p, l, k, e, hl, hk => by
    obtain ⟨k, rfl, hk⟩ := succ_of hk
    have hn : l.length = p.length + d.length + 1 := by subst e; simp; omega
    have hx : rd_T42 l (p.length : Int) = x := by subst e; exact rd_mid p d x
    have ih := made_l d (p ++ [x]) l k (by subst e; simp) hl (by simpa using hk)
    simp only [cordwainlaw11_made.l0]
    rw [if_pos (by omega), if_pos (by omega), if_pos (by rw [List.length_map]; omega), hx, w64 (by omega) (by omega)]
    rw [show ((p.length : Int) + 1) = ((p ++ [x]).length : Int) from by simp, show p.map conv ++ [(⟨x.f0, x.f1, x.f2, x.f3, x.f4⟩ : S51)] = (p ++ [x]).map conv from by rw [List.map_append]; rfl]
    exact ih

theorem made_f (l : List S42) (k : Nat) (hl : l.length ≤ 60) (hk : 61 ≤ k) : cordwainlaw11_made.f k l = some (l.map conv) := by
  unfold cordwainlaw11_made.f
  exact made_l l [] l k rfl hl (by omega)

/-- What the small cases hold. -/
def Ok (x : S42) : Prop := (0 ≤ x.f3 ∧ x.f3 ≤ 1125899906842624) ∧ (0 ≤ x.f4 ∧ x.f4 ≤ 1125899906842624)

theorem small_l (l : List S42) (hl : l.length ≤ 60) : ∀ (m k : Nat) (i : Int), 0 ≤ i → i + m = l.length → m + 1 ≤ k →
    ∃ b, cordwainlaw11_small.l0 k l i = some b ∧ (b = true → ∀ j : Int, i ≤ j → j < l.length → Ok (rd_T42 l j))
  | 0, k, i, h0, e, hk => by
    obtain ⟨k, rfl, hk⟩ := succ_of hk
    simp only [cordwainlaw11_small.l0]
    rw [if_neg (by omega)]
    exact ⟨true, rfl, fun _ j h1 h2 => by omega⟩
  | m + 1, k, i, h0, e, hk => by
    obtain ⟨k, rfl, hk⟩ := succ_of hk
    obtain ⟨b, hb, ih⟩ := small_l l hl m k (i + 1) (by omega) (by omega) (by omega)
    simp only [cordwainlaw11_small.l0]
    rw [if_pos (by omega), if_pos h0]
    have no : ∃ b, some false = some b ∧ (b = true → ∀ j : Int, i ≤ j → j < l.length → Ok (rd_T42 l j)) := ⟨false, rfl, fun h => by cases h⟩
    by_cases c1 : (rd_T42 l i).f4 < 0
    · rw [if_pos c1]; exact no
    rw [if_neg c1]
    by_cases c2 : (rd_T42 l i).f4 > 1125899906842624
    · rw [if_pos c2]; exact no
    rw [if_neg c2]
    by_cases c3 : (rd_T42 l i).f3 < 0
    · rw [if_pos c3]; exact no
    rw [if_neg c3]
    by_cases c4 : (rd_T42 l i).f3 > 1125899906842624
    · rw [if_pos c4]; exact no
    rw [if_neg c4, w64 (by omega) (by omega)]
    refine ⟨b, hb, fun h j h1 h2 => ?_⟩
    by_cases hj : j = i
    · subst hj; exact ⟨⟨by omega, by omega⟩, ⟨by omega, by omega⟩⟩
    · exact ih h j (by omega) h2

theorem small_f (l : List S42) (now : Int) (k : Nat) (hk : 62 ≤ k) :
    ∃ b, cordwainlaw11_small.f k l now = some b ∧ (b = true → l.length ≤ 60 ∧ (0 ≤ now ∧ now ≤ 1125899906842624) ∧ ∀ j : Int, 0 ≤ j → j < l.length → Ok (rd_T42 l j)) := by
  obtain ⟨k, rfl, hk⟩ := succ_of hk
  unfold cordwainlaw11_small.f
  simp only [cordwainlaw11_small.j0]
  have no : ∃ b, some false = some b ∧ (b = true → l.length ≤ 60 ∧ (0 ≤ now ∧ now ≤ 1125899906842624) ∧ ∀ j : Int, 0 ≤ j → j < l.length → Ok (rd_T42 l j)) := ⟨false, rfl, fun h => by cases h⟩
  by_cases c1 : (l.length : Int) > 60
  · rw [if_pos c1, if_pos trivial]; exact no
  rw [if_neg c1]
  by_cases c2 : now < 0
  · rw [if_pos c2, if_pos trivial]; exact no
  rw [if_neg c2]
  by_cases c3 : now > 1125899906842624
  · rw [if_pos (decide_eq_true c3)]; exact no
  rw [if_neg (by rw [decide_eq_true_iff]; exact c3)]
  obtain ⟨b, hb, h⟩ := small_l l (by omega) l.length k 0 (by omega) (by omega) (by omega)
  exact ⟨b, hb, fun hb => ⟨by omega, ⟨by omega, by omega⟩, h hb⟩⟩

/-- The front segment can go. -/
def Over (l : List S42) (K A now j : Int) : Prop := (K > 0 ∧ sumL 0 (l.drop j.toNat) > K) ∨ (A > 0 ∧ now - (rd_T42 l j).f4 > A)

/-- What the front is. -/
def Front (l : List S42) (K A now i r : Int) : Prop := i ≤ r ∧ (r = i ∨ r < l.length) ∧ (∀ j : Int, i ≤ j → j < r → Over l K A now j) ∧ (r + 1 < l.length → ¬ Over l K A now r)

theorem Front.step {l : List S42} {K A now i r : Int} (h : Front l K A now (i + 1) r) (ho : Over l K A now i) (hi : i + 1 < l.length) : Front l K A now i r := by
  obtain ⟨h1, h2, h3, h4⟩ := h
  refine ⟨by omega, .inr (by omega), fun j j0 j1 => ?_, h4⟩
  by_cases e : j = i
  · subst e; exact ho
  · exact h3 j (by omega) j1

theorem Front.uniq {l : List S42} {K A now r s : Int} (h : Front l K A now 0 r) (g : Front l K A now 0 s) : r = s := by
  obtain ⟨h1, h2, h3, h4⟩ := h
  obtain ⟨g1, g2, g3, g4⟩ := g
  by_cases c : r < s
  · exact absurd (g3 r h1 c) (h4 (by omega))
  by_cases d : s < r
  · exact absurd (h3 s g1 d) (g4 (by omega))
  omega

theorem drop_len {l : List S42} (hl : l.length ≤ 60) (n : Nat) : (l.drop n).length ≤ 60 := by rw [List.length_drop]; omega

theorem front_l (l : List S42) (K A now p0 p1 p2 p6 p7 : Int) (b5 b8 : Bool) (hl : l.length ≤ 60) (hn : 0 ≤ now ∧ now ≤ 1125899906842624) (hA : A < 9223372036854775808) (hok : ∀ j : Int, 0 ≤ j → j < l.length → Ok (rd_T42 l j)) :
    ∀ (m k : Nat) (i : Int), 0 ≤ i → i + m = l.length → 2 * m + 70 ≤ k → ∃ r, retain_Front.l0 k (l.map conv) now i p0 p1 p2 K A b5 p6 p7 b8 = some r ∧ Front l K A now i r
  | 0, k, i, h0, e, hk => by
    obtain ⟨k, rfl, hk⟩ := succ_of hk
    simp only [retain_Front.l0]
    rw [List.length_map, w64 (by omega) (by omega), if_neg (by omega)]
    exact ⟨i, rfl, by omega, .inl rfl, fun j h1 h2 => by omega, by omega⟩
  | m + 1, k, i, h0, e, hk => by
    obtain ⟨k, rfl, hk⟩ := succ_of hk
    simp only [retain_Front.l0]
    rw [List.length_map, w64 (x := (l.length : Int) - 1) (by omega) (by omega)]
    by_cases hi : i < (l.length : Int) - 1
    · rw [if_pos hi]
      have hgo : Over l K A now i → ∃ r, retain_Front.l0 (k - 1) (l.map conv) now (wrap64 (i + 1)) p0 p1 p2 K A b5 p6 p7 b8 = some r ∧ Front l K A now i r := by
        intro ho
        obtain ⟨r, hr, hF⟩ := front_l l K A now p0 p1 p2 p6 p7 b5 b8 hl hn hA hok m (k - 1) (i + 1) (by omega) (by omega) (by omega)
        rw [w64 (by omega) (by omega)]
        exact ⟨r, hr, hF.step ho (by omega)⟩
      have hj : ∀ b, (b = true → Over l K A now i) → (Over l K A now i → b = true ∨ (A > 0 ∧ now - (rd_T42 l i).f4 > A)) →
          ∃ r, retain_Front.j1 k (l.map conv) now i b p0 p1 p2 K A b5 p6 p7 b8 = some r ∧ Front l K A now i r := by
        intro b hb hb'
        obtain ⟨k, rfl, hk⟩ := succ_of (show (2 * m + 70) + 1 ≤ k by omega)
        simp only [retain_Front.j1]
        by_cases hbt : b = true
        · rw [if_pos hbt]; exact hgo (hb hbt)
        · rw [if_neg hbt, if_pos h0, if_pos (by rw [List.length_map]; omega), rd_conv, show (conv (rd_T42 l i)).f4 = (rd_T42 l i).f4 from rfl, old_f hn (hok i h0 (by omega)).2 hA, Option.bind_some]
          by_cases ho : A > 0 ∧ now - (rd_T42 l i).f4 > A
          · rw [if_pos (decide_eq_true ho)]; exact hgo (.inr ho)
          · rw [if_neg (by rw [decide_eq_true_iff]; exact ho)]
            refine ⟨i, rfl, by omega, .inl rfl, fun j h1 h2 => by omega, fun _ h => ?_⟩
            rcases hb' h with h | h
            · exact hbt h
            · exact ho h
      by_cases hK : K > 0
      · rw [if_pos hK, if_pos h0, if_pos (by omega), ← List.map_drop, rsum_f _ k (drop_len hl _) (by omega), Option.bind_some]
        refine hj _ (fun h => .inl ⟨hK, of_decide_eq_true h⟩) (fun h => ?_)
        rcases h with h | h
        · exact .inl (decide_eq_true h.2)
        · exact .inr h
      · rw [if_neg hK]
        refine hj false (fun h => by cases h) (fun h => ?_)
        rcases h with h | h
        · exact absurd h.1 hK
        · exact .inr h
    · rw [if_neg hi]
      exact ⟨i, rfl, by omega, .inl rfl, fun j h1 h2 => by omega, by omega⟩

theorem front_f (l : List S42) (K A now p0 p1 p2 p6 p7 : Int) (b5 b8 : Bool) (hl : l.length ≤ 60) (hn : 0 ≤ now ∧ now ≤ 1125899906842624) (hA : A < 9223372036854775808) (hok : ∀ j : Int, 0 ≤ j → j < l.length → Ok (rd_T42 l j)) (k : Nat) (hk : 200 ≤ k) :
    ∃ r, retain_Front.f k (l.map conv) p0 p1 p2 K A b5 p6 p7 b8 now = some r ∧ Front l K A now 0 r := by
  unfold retain_Front.f
  exact front_l l K A now p0 p1 p2 p6 p7 b5 b8 hl hn hA hok l.length k 0 (by omega) (by omega) (by omega)

end Go.Proofs.Ytakodondlmiklaa.PRetainAsksU
