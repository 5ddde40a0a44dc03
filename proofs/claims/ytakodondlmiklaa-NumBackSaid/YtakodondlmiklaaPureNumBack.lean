/- Any number that is written is read as it was, whatever stands behind it; cut short it is none, and another form of it is none: for all numbers, bytes and cuts. -/
import Derived.Test.YtakodondlmiklaaPNumBackx1
import Derived.Test.YtakodondlmiklaaUseNumBack
namespace Go.Proofs.Ytakodondlmiklaa.Pure
open Go.RowKit Go.Proofs.Ytakodondlmiklaa.PNumBack Go.Proofs.YtakodondlmiklaaW.PrintWords Go.Proofs.YtakodondlmiklaaW.PrintLast Go.Proofs.YtakodondlmiklaaW.PrintMore Go.Proofs.Ytakodondlmiklaa.NumMath Go.Proofs.Ytakodondlmiklaa.UsePNumBack

theorem round_f (a : Int) (n : Nat) (hn : 0 < n) (hn' : n < 1000) : ∃ t : Nat, t < n ∧ cordwainalike_Round.f a (n : Int) = some (t : Int) := by
  unfold cordwainalike_Round.f
  rw [if_neg (by omega)]
  have hb := Int.tmod_lt_of_pos a (b := (n : Int)) (by omega)
  have hl : -(n : Int) < Int.tmod a n := by
    have h1 := Int.tmod_lt_of_pos (-a) (b := (n : Int)) (by omega)
    rw [Int.neg_tmod] at h1
    omega
  by_cases hz : Int.tmod a n < 0
  · refine ⟨(Int.tmod a n + n).toNat, by omega, ?_⟩
    rw [if_pos hz]
    congr 1
    unfold wrap64; omega
  · refine ⟨(Int.tmod a n).toNat, by omega, ?_⟩
    rw [if_neg hz]
    congr 1
    omega

theorem core (k : Nat) (hk : 40 ≤ k) (a0 : Int) (l1 : List Int) (a2 : Int) (h0 : -9223372036854775808 ≤ a0 ∧ a0 ≤ 9223372036854775807) : cordwainlaw1_NumBack.f k a0 l1 a2 = some true := by
  unfold cordwainlaw1_NumBack.f
  by_cases hbig : (l1.length : Int) > 500
  · rw [if_pos hbig, awake_f k hk]; rfl
  rw [if_neg hbig, put_f h0 k (by omega)]
  simp only [Option.bind_some]
  have hle := enc_len_le 9 (zig a0).toNat
  have hpos := enc_len_pos 9 (zig a0).toNat
  have hmore := enc_more 9 (zig a0).toNat
  obtain ⟨hzz, hzlt⟩ := zig_nat h0
  have hbyte := enc_byte 9 (zig a0).toNat (lt_128 hzlt)
  have hread := get_put h0 l1 k (by omega)
  generalize hb : enc 9 (zig a0).toNat = b at *
  obtain ⟨t, ht, hround⟩ := round_f a2 b.length (by omega) (by omega)
  rw [if_neg (by omega), if_pos (by simp; omega)]
  simp only [List.nil_append]
  rw [if_pos (by omega), hread, Option.bind_some, hround, Option.bind_some]
  rw [if_pos (by omega), if_pos (by omega)]
  -- cut short
  obtain ⟨c1, c2, hcut'⟩ := get_bad_f (b.take t) (b.take t).length (Nat.le_refl _) (by
    intro j hj
    simp only [List.length_take] at hj
    have := hmore j (by omega)
    simpa [List.getD_eq_getElem?_getD, List.getElem?_take, show j < t from by omega] using this) (.inl rfl) k (by simp only [List.length_take]; omega)
  rw [show ((t : Int)).toNat = t from by omega, hcut', Option.bind_some]
  rw [if_pos (by simp; omega)]
  have hw : wrap64 ((b.length : Int) - 1) = ((b.length - 1 : Nat) : Int) := by unfold wrap64; omega
  rw [hw, if_pos (by omega), if_pos (by omega)]
  -- another form
  have hlast : 0 ≤ rd b ((b.length - 1 : Nat) : Int) ∧ rd b ((b.length - 1 : Nat) : Int) < 256 := by
    unfold rd
    rw [Int.toNat_natCast, List.getD_eq_getElem?_getD, List.getElem?_eq_getElem (by omega), Option.getD_some]
    exact hbyte _ (List.getElem_mem _)
  have hor := or_ge _ hlast.1 hlast.2
  generalize Go.bits .or .u8 (rd b ((b.length - 1 : Nat) : Int)) 128 = z at hor ⊢
  rw [show ((((b.length - 1 : Nat) : Int)).toNat) = b.length - 1 from by omega]
  rw [if_pos (by simp; omega)]
  obtain ⟨d1, d2, hform'⟩ := get_bad_f (b.set (b.length - 1) z ++ [0]) b.length (by simp) (by
    intro j hj
    rw [List.getD_eq_getElem?_getD, List.getElem?_append_left (by simpa using hj), List.getElem?_set]
    by_cases e : b.length - 1 = j
    · rw [if_pos e, if_pos (by omega)]; exact hor
    · rw [if_neg e]
      have := hmore j (by omega)
      rwa [List.getD_eq_getElem?_getD] at this) (.inr ⟨by omega, by simp, by simp [List.getD_eq_getElem?_getD]⟩) k (by omega)
  have hsize := size_f h0 k (by omega)
  rw [hb] at hsize
  rw [hform', Option.bind_some, if_pos rfl, if_pos rfl, if_pos rfl, if_pos rfl, if_pos rfl, zig_f h0, Option.bind_some, zag_f (by omega) (by omega), zag_zig, Option.bind_some, if_pos rfl, hsize, Option.bind_some, if_pos rfl, awake_f k hk]
  rfl

theorem NumBack : cordwainlaw1_NumBack.Pure := fun a0 l1 a2 w0 _ _ _ _ => ⟨40, core 40 (Nat.le_refl _) a0 l1 a2 (in_i64 w0)⟩

end Go.Proofs.Ytakodondlmiklaa.Pure
