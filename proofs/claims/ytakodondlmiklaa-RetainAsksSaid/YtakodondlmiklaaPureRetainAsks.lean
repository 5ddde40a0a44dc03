/- The retention's questions have the reference's answers. -/
import Derived.Test.YtakodondlmiklaaURetainAsks
namespace Go.Proofs.Ytakodondlmiklaa.Pure
open Go.RowKit Go.Proofs.Ytakodondlmiklaa.PRetainAsks Go.Proofs.Ytakodondlmiklaa.PRetainAsksU Go.Proofs.YtakodondlmiklaaW.PrintWords Go.Proofs.YtakodondlmiklaaW.PrintLast Go.Proofs.YtakodondlmiklaaW.PrintMore

theorem older_f {now since age : Int} (h0 : 0 ≤ now ∧ now ≤ 1125899906842624) (h1 : 0 ≤ since ∧ since ≤ 1125899906842624) (h2 : age > 0) : cordwainref10_older.f now since age = some (decide (age > 0 ∧ now - since > age)) := by
  obtain ⟨a0, a1⟩ := h0; obtain ⟨b0, b1⟩ := h1
  unfold cordwainref10_older.f
  rw [if_neg (by omega)]
  by_cases hb : now > since
  · rw [if_pos hb, w64 (by omega) (by omega)]
    congr 1
    rw [decide_eq_decide]
    omega
  · rw [if_neg hb]
    congr 1
    rw [eq_comm, decide_eq_false_iff_not]
    omega

/-- Whether the segment is full. -/
abbrev Rolls (x : S42) (P A now more : Int) : Prop := x.f2 > 0 ∧ (x.f2 + more > P ∨ A > 0 ∧ now - x.f3 > A)
theorem rolls_f {x : S42} {P A p2 K A2 p6 p7 now more : Int} {b5 b8 : Bool} (hok : Ok x) (hn : 0 ≤ now ∧ now ≤ 1125899906842624) (hm : 0 ≤ more ∧ more ≤ 1099511627776) (h2 : x.f2 ≤ 1125899906842624) (hA : A < 9223372036854775808) :
    retain_Rolls.f x.f0 x.f1 x.f2 x.f3 x.f4 P A p2 K A2 b5 p6 p7 b8 now more = some (decide (Rolls x P A now more)) := by
  unfold retain_Rolls.f Rolls
  by_cases c : x.f2 ≤ 0
  · rw [if_pos c]; congr 1; rw [eq_comm, decide_eq_false_iff_not]; omega
  rw [if_neg c, hold_f, hold_f, Option.bind_some, Option.bind_some, hold_id (by omega) h2, hold_id hm.1 (by omega), w64 (by omega) (by omega)]
  by_cases g : x.f2 + more > P
  · rw [if_pos g]; congr 1; rw [eq_comm, decide_eq_true_iff]; exact ⟨by omega, .inl g⟩
  · rw [if_neg g, old_f hn hok.1 hA, Option.bind_some]; congr 1; rw [decide_eq_decide]; omega
theorem refrolls_f {x : S42} {P A p2 K A2 p6 p7 now more : Int} {b5 b8 : Bool} (hok : Ok x) (hn : 0 ≤ now ∧ now ≤ 1125899906842624) (hm : 0 ≤ more ∧ more ≤ 1099511627776) (h2 : x.f2 ≤ 1125899906842624) :
    cordwainref10_Rolls.f x.f0 x.f1 x.f2 x.f3 x.f4 P A p2 K A2 b5 p6 p7 b8 now more = some (decide (Rolls x P A now more)) := by
  unfold cordwainref10_Rolls.f Rolls
  by_cases c : x.f2 > 0
  · rw [if_pos c, w64 (by omega) (by omega)]
    by_cases g : x.f2 + more > P
    · rw [if_pos g]; congr 1; rw [eq_comm, decide_eq_true_iff]; exact ⟨by omega, .inl g⟩
    · rw [if_neg g]
      by_cases a : A > 0
      · rw [if_pos a, older_f hn hok.1 a, Option.bind_some]; congr 1; rw [decide_eq_decide]; omega
      · rw [if_neg a]; congr 1; rw [eq_comm, decide_eq_false_iff_not]; omega
  · rw [if_neg c]; congr 1; rw [eq_comm, decide_eq_false_iff_not]; omega

theorem reffront_l (l : List S42) (K A now p0 p1 p2 p6 p7 : Int) (b5 b8 : Bool) (hl : l.length ≤ 60) (hn : 0 ≤ now ∧ now ≤ 1125899906842624) (hok : ∀ j : Int, 0 ≤ j → j < l.length → Ok (rd_T42 l j)) :
    ∀ (m k : Nat) (i : Int), 0 ≤ i → i + m = l.length → m + 70 ≤ k → ∃ r, cordwainref10_Front.l0 k l now i p0 p1 p2 K A b5 p6 p7 b8 = some r ∧ Front l K A now i r
  | 0, k, i, h0, e, hk => by
    obtain ⟨k, rfl, hk⟩ := succ_of hk
    simp only [cordwainref10_Front.l0]
    rw [w64 (by omega) (by omega), if_neg (by omega)]
    exact ⟨i, rfl, by omega, .inl rfl, fun j h1 h2 => by omega, by omega⟩
  | m + 1, k, i, h0, e, hk => by
    obtain ⟨k, rfl, hk⟩ := succ_of hk
    simp only [cordwainref10_Front.l0]
    rw [w64 (x := i + 1) (by omega) (by omega)]
    by_cases hi : i + 1 < (l.length : Int)
    · rw [if_pos hi]
      have hgo : Over l K A now i → ∃ r, cordwainref10_Front.l0 k l now (i + 1) p0 p1 p2 K A b5 p6 p7 b8 = some r ∧ Front l K A now i r := by
        intro ho
        obtain ⟨r, hr, hF⟩ := reffront_l l K A now p0 p1 p2 p6 p7 b5 b8 hl hn hok m k (i + 1) (by omega) (by omega) (by omega)
        exact ⟨r, hr, hF.step ho (by omega)⟩
      have hno : ¬ Over l K A now i → ∃ r, some i = some r ∧ Front l K A now i r := fun h => ⟨i, rfl, by omega, .inl rfl, fun j h1 h2 => by omega, fun _ => h⟩
      have ok4 := (hok i h0 (by omega)).2
      have hold_ : ∀ (hK : ¬ (K > 0 ∧ sumL 0 (l.drop i.toNat) > K)) (hA : A > 0), ∃ r, (if decide (A > 0 ∧ now - (rd_T42 l i).f4 > A) = true then cordwainref10_Front.l0 k l now (i + 1) p0 p1 p2 K A b5 p6 p7 b8 else some i) = some r ∧ Front l K A now i r := by
        intro hK hA
        by_cases o : A > 0 ∧ now - (rd_T42 l i).f4 > A
        · rw [if_pos (decide_eq_true o)]; exact hgo (.inr o)
        · rw [if_neg (by rw [decide_eq_true_iff]; exact o)]; exact hno (fun h => h.elim hK o)
      by_cases hK : K > 0
      · rw [if_pos hK, if_pos h0, if_pos (by omega), fsum_f _ k (drop_len hl _) (by omega), Option.bind_some]
        by_cases s : sumL 0 (l.drop i.toNat) > K
        · by_cases a : A > 0
          · rw [if_pos a, if_pos (by omega), older_f hn ok4 a, Option.bind_some, if_pos s]; exact hgo (.inl ⟨hK, s⟩)
          · rw [if_neg a, if_pos s]; exact hgo (.inl ⟨hK, s⟩)
        · by_cases a : A > 0
          · rw [if_pos a, if_pos (by omega), older_f hn ok4 a, Option.bind_some, if_neg s]; exact hold_ (fun h => s h.2) a
          · rw [if_neg a, if_neg s]; exact hno (fun h => h.elim (fun h => s h.2) (fun h => a h.1))
      · rw [if_neg hK]
        by_cases a : A > 0
        · rw [if_pos a, if_pos h0, if_pos (by omega), older_f hn ok4 a, Option.bind_some]; exact hold_ (fun h => hK h.1) a
        · rw [if_neg a]; exact hno (fun h => h.elim (fun h => hK h.1) (fun h => a h.1))
    · rw [if_neg hi]
      exact ⟨i, rfl, by omega, .inl rfl, fun j h1 h2 => by omega, by omega⟩

theorem trims (l : List S42) (x1 : Int) (hl : l.length ≤ 60) : ∀ (m k : Nat) (i : Int), 0 ≤ i → i + m = l.length → m + 1 ≤ k →
    ∃ r, retain_Trim.l0 k (l.map conv) x1 i = some r ∧ cordwainref10_TrimInfos.l0 k l x1 i = some r
  | 0, k, i, h0, e, hk => by
    obtain ⟨k, rfl, hk⟩ := succ_of hk
    simp only [retain_Trim.l0, cordwainref10_TrimInfos.l0]
    rw [List.length_map, w64 (x := (l.length : Int) - 1) (by omega) (by omega), w64 (x := i + 1) (by omega) (by omega)]
    simp only [if_neg (show ¬ i < (l.length : Int) - 1 by omega), if_neg (show ¬ i + 1 < (l.length : Int) by omega)]
    exact ⟨i, rfl, rfl⟩
  | m + 1, k, i, h0, e, hk => by
    obtain ⟨k, rfl, hk⟩ := succ_of hk
    obtain ⟨r, hr, hs⟩ := trims l x1 hl m k (i + 1) (by omega) (by omega) (by omega)
    simp only [retain_Trim.l0, cordwainref10_TrimInfos.l0]
    rw [List.length_map, w64 (x := (l.length : Int) - 1) (by omega) (by omega), w64 (x := i + 1) (by omega) (by omega), rd_conv, hr, hs]
    rw [show (conv (rd_T42 l i)).f1 = (rd_T42 l i).f1 from rfl]
    by_cases c : i + 1 < (l.length : Int)
    · simp only [if_pos (show i < (l.length : Int) - 1 by omega), if_pos c, if_pos h0, if_pos (show i < (l.length : Int) by omega)]
      by_cases d : (rd_T42 l i).f1 ≤ x1
      · simp only [if_pos d]; exact ⟨r, rfl, rfl⟩
      · simp only [if_neg d]; exact ⟨i, rfl, rfl⟩
    · simp only [if_neg (show ¬ i < (l.length : Int) - 1 by omega), if_neg c]; exact ⟨i, rfl, rfl⟩

theorem asks_l0 (l : List S42) (now x3 more P A p2 K A2 p6 p7 : Int) (b5 b8 : Bool) (hl : l.length ≤ 60) (hn : 0 ≤ now ∧ now ≤ 1125899906842624) (hm : 0 ≤ more ∧ more ≤ 1099511627776) (hA : A < 9223372036854775808) (hA2 : A2 < 9223372036854775808)
    (hok : ∀ j : Int, 0 ≤ j → j < l.length → Ok (rd_T42 l j)) :
    ∀ (m k : Nat) (i : Int), 0 ≤ i → i + m = l.length → m + 303 ≤ k → cordwainlaw11_RetainAsks.l0 k l now x3 more (l.map conv) i P A p2 K A2 b5 p6 p7 b8 = some true
  | 0, k, i, h0, e, hk => by
    obtain ⟨k, rfl, hk⟩ := succ_of hk
    simp only [cordwainlaw11_RetainAsks.l0]
    obtain ⟨r, hr, hF⟩ := front_f l K A2 now P A p2 p6 p7 b5 b8 hl hn hA2 hok k (by omega)
    obtain ⟨s, hs, hG⟩ := reffront_l l K A2 now P A p2 p6 p7 b5 b8 hl hn hok l.length k 0 (by omega) (by omega) (by omega)
    obtain ⟨t, ht, hu⟩ := trims l x3 hl l.length k 0 (by omega) (by omega) (by omega)
    have hs' : cordwainref10_Front.f k l P A p2 K A2 b5 p6 p7 b8 now = some s := hs
    have ht' : retain_Trim.f k (l.map conv) x3 = some t := ht
    have hu' : cordwainref10_TrimInfos.f k l x3 = some t := hu
    rw [if_neg (by omega), hr, Option.bind_some, hs', Option.bind_some, if_pos (hF.uniq hG), ht', Option.bind_some, hu', Option.bind_some, if_pos rfl, rsum_f l k hl (by omega), Option.bind_some, fsum_f l k hl (by omega), Option.bind_some, if_pos rfl, awake_f k (by omega), Option.bind_some]
  | m + 1, k, i, h0, e, hk => by
    obtain ⟨k, rfl, hk⟩ := succ_of hk
    have ih := asks_l0 l now x3 more P A p2 K A2 p6 p7 b5 b8 hl hn hm hA hA2 hok m k (i + 1) (by omega) (by omega) (by omega)
    simp only [cordwainlaw11_RetainAsks.l0]
    rw [if_pos (by omega), if_pos h0, awake_f k (by omega), Option.bind_some, w64 (x := i + 1) (by omega) (by omega), ih, rd_conv]
    by_cases c : (rd_T42 l i).f2 > 1125899906842624
    · rw [if_pos c]
    · have ok := hok i h0 (by omega)
      have e1 := rolls_f (P := P) (A := A) (p2 := p2) (K := K) (A2 := A2) (p6 := p6) (p7 := p7) (b5 := b5) (b8 := b8) ok hn hm (by omega) hA
      have e2 := refrolls_f (P := P) (A := A) (p2 := p2) (K := K) (A2 := A2) (p6 := p6) (p7 := p7) (b5 := b5) (b8 := b8) ok hn hm (by omega)
      rw [if_neg c, if_pos (by rw [List.length_map]; omega)]
      simp only [conv]
      rw [e1, Option.bind_some, e2, Option.bind_some, if_neg (by simp)]

theorem asks_true (k : Nat) (hk : 41 ≤ k) (l : List S42) (x2 x3 x4 a b c d e : Int) (f : Bool) (g h : Int) (i : Bool) : cordwainlaw11_RetainAsks.j0 k l x2 x3 x4 true a b c d e f g h i = some true := by
  obtain ⟨k, rfl, hk⟩ := succ_of hk
  simp only [cordwainlaw11_RetainAsks.j0]
  rw [if_pos trivial, awake_f k (by omega)]; rfl

theorem wf_lt {n : Int} (h : (Lit.int .i64 n).wf = true) : n < 9223372036854775808 := by
  have h' : -9223372036854775808 ≤ n ∧ n ≤ 9223372036854775807 := by simpa [Lit.wf, IntKind.min, IntKind.max, IntKind.bits, IntKind.signed] using h
  omega

theorem RetainAsks : cordwainlaw11_RetainAsks.Pure := by
  intro l P A p2 K A2 b5 p6 p7 b8 now x3 more _ hp _ _ _
  obtain ⟨_, hA, _, _, hA2, _⟩ := hp
  have hA : A < 9223372036854775808 := wf_lt hA
  have hA2 : A2 < 9223372036854775808 := wf_lt hA2
  refine ⟨500, ?_⟩
  generalize hk : (500 : Nat) = k
  have hk' : 500 ≤ k := by omega
  clear hk
  have ht := asks_true k (by omega) l now x3 more P A p2 K A2 b5 p6 p7 b8
  unfold cordwainlaw11_RetainAsks.f
  obtain ⟨b, hb, hs⟩ := small_f l now k (by omega)
  rw [hb, Option.bind_some]
  by_cases c0 : b = true
  · obtain ⟨hl, hn, hok⟩ := hs c0
    rw [if_pos c0]
    by_cases c1 : more < 0
    · rw [if_pos c1, ht]
    rw [if_neg c1]
    by_cases c2 : more > 1099511627776
    · rw [decide_eq_true c2, ht]
    rw [decide_eq_false c2]
    obtain ⟨k, rfl, hk⟩ := succ_of hk'
    simp only [cordwainlaw11_RetainAsks.j0]
    rw [if_neg (by decide), made_f l k hl (by omega), Option.bind_some]
    exact asks_l0 l now x3 more P A p2 K A2 p6 p7 b5 b8 hl hn ⟨by omega, by omega⟩ hA hA2 hok l.length k 0 (by omega) (by omega) (by omega)
  · rw [if_neg c0, ht]

end Go.Proofs.Ytakodondlmiklaa.Pure
