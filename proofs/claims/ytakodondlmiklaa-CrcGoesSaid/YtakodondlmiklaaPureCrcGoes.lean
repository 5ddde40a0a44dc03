/- A sum goes on; one changed bit changes it. -/
import Derived.Test.YtakodondlmiklaaUCrcGoes
namespace Go.Proofs.Ytakodondlmiklaa.Pure
open Go.RowKit Go.Proofs.Ytakodondlmiklaa.PCrcGoes Go.Proofs.Ytakodondlmiklaa.PCrcGoesU Go.Proofs.YtakodondlmiklaaW.PrintWords Go.Proofs.YtakodondlmiklaaW.PrintLast Go.Proofs.YtakodondlmiklaaW.PrintMore

theorem xor_back (x a : Nat) : x ^^^ (x ^^^ a) = a := by rw [← Nat.xor_assoc, Nat.xor_self, Nat.zero_xor]
theorem xor_inj {x a b : Int} (hx : U x) (ha : U a) (hb : U b) (h : Go.bits .xor .u32 x a = Go.bits .xor .u32 x b) : a = b := by
  obtain ⟨x, rfl, kx⟩ := nat_of hx; obtain ⟨a, rfl, ka⟩ := nat_of ha; obtain ⟨b, rfl, kb⟩ := nat_of hb
  rw [xor_u32 x a kx ka, xor_u32 x b kx kb] at h
  have h' : x ^^^ a = x ^^^ b := by omega
  have := congrArg (x ^^^ ·) h'
  simp only [xor_back] at this
  omega
theorem xor_injl {x a b : Int} (hx : U x) (ha : U a) (hb : U b) (h : Go.bits .xor .u32 a x = Go.bits .xor .u32 b x) : a = b := by
  refine xor_inj hx ha hb ?_
  obtain ⟨x, rfl, kx⟩ := nat_of hx; obtain ⟨a, rfl, ka⟩ := nat_of ha; obtain ⟨b, rfl, kb⟩ := nat_of hb
  rw [xor_u32 a x ka kx, xor_u32 b x kb kx] at h
  rw [xor_u32 x a kx ka, xor_u32 x b kx kb, Nat.xor_comm x a, Nat.xor_comm x b]
  exact h
theorem inv_inj {a b : Int} (ha : U a) (hb : U b) (h : inv a = inv b) : a = b := xor_inj ⟨by decide, by decide⟩ ha hb h

theorem and_mod {x : Int} (h : U x) : Go.bits .and .u32 x 1 = x % 2 := by
  obtain ⟨a, rfl, ha⟩ := nat_of h
  rw [and_bv, wrap_u32, show BitVec.ofInt 32 (1 : Int) = 1#32 from rfl, BitVec.toNat_and, show (1#32).toNat = 1 from rfl, Nat.and_one_is_mod, BitVec.ofInt_natCast, BitVec.toNat_ofNat, show a % 2 ^ 32 = a from Nat.mod_eq_of_lt (by simpa using ha)]
  omega
theorem high {a : Nat} (h : a < 2147483648) : 2147483648 ≤ a ^^^ 2197175160 := by
  refine Nat.le_of_not_lt fun hlt => ?_
  have h1 : (a ^^^ 2197175160).testBit 31 = false := Nat.testBit_lt_two_pow (by simpa using hlt)
  rw [Nat.testBit_xor, Nat.testBit_lt_two_pow (x := a) (i := 31) (by simpa using h)] at h1
  exact absurd h1 (by decide)
theorem T_inj {x y : Int} (hx : U x) (hy : U y) (h : T x = T y) : x = y := by
  have hx2 : U (x / 2) := ⟨by have := hx.1; omega, by have := hx.2; have := hx.1; omega⟩
  have hy2 : U (y / 2) := ⟨by have := hy.1; omega, by have := hy.2; have := hy.1; omega⟩
  have lo : ∀ {z : Int}, U z → 2147483648 ≤ Go.bits .xor .u32 (z / 2) 2197175160 := fun {z} hz => by
    obtain ⟨a, rfl, ha⟩ := nat_of hz
    rw [show ((a : Int) / 2) = ((a / 2 : Nat) : Int) from by omega, show (2197175160 : Int) = ((2197175160 : Nat) : Int) from rfl, xor_u32 _ _ (by omega) (by decide)]
    have := high (a := a / 2) (by omega)
    omega
  have lx := lo hx; have ly := lo hy
  have hx1 := hx.1; have hx3 := hx.2; have hy1 := hy.1; have hy3 := hy.2
  unfold T at h
  rw [and_mod hx, and_mod hy] at h
  by_cases a : x % 2 = 1
  · by_cases b : y % 2 = 1
    · rw [if_pos a, if_pos b] at h
      have := xor_injl ⟨by decide, by decide⟩ hx2 hy2 h
      omega
    · rw [if_pos a, if_neg b] at h; omega
  · by_cases b : y % 2 = 1
    · rw [if_neg a, if_pos b] at h; omega
    · rw [if_neg a, if_neg b] at h; omega
theorem Tn_inj : ∀ (n : Nat) {x y : Int}, U x → U y → Tn n x = Tn n y → x = y
  | 0, _, _, _, _, h => h
  | n + 1, _, _, hx, hy, h => T_inj hx hy (Tn_inj n (T_U hx) (T_U hy) h)
theorem mod_U (c : Int) : U (c % 4294967296) := ⟨Int.emod_nonneg _ (by decide), Int.emod_lt_of_pos _ (by decide)⟩
theorem upd_injl {x y c : Int} (hx : U x) (hy : U y) (h : upd x c = upd y c) : x = y := xor_injl (mod_U c) hx hy (Tn_inj 8 (xor_U _ _) (xor_U _ _) h)
theorem upd_injr {x c d : Int} (hx : U x) (h : upd x c = upd x d) : c % 4294967296 = d % 4294967296 := xor_inj hx (mod_U c) (mod_U d) (Tn_inj 8 (xor_U _ _) (xor_U _ _) h)
theorem crcL_inj : ∀ (l : List Int) {x y : Int}, U x → U y → crcL x l = crcL y l → x = y
  | [], _, _, _, _, h => h
  | _ :: d, _, _, hx, hy, h => upd_injl hx hy (crcL_inj d (upd_U _ _) (upd_U _ _) h)

/-- One other byte: another sum. -/
theorem M_other (a : Int) (b : List Int) (i : Nat) (v : Int) (hi : i < b.length) (hne : v % 4294967296 ≠ (b.getD i 0) % 4294967296) : M a (b.set i v) ≠ M a b := by
  intro h
  have hs : b = b.take i ++ b.getD i 0 :: b.drop (i + 1) := by
    rw [List.getD_eq_getElem?_getD, List.getElem?_eq_getElem hi, Option.getD_some, ← List.drop_eq_getElem_cons hi, List.take_append_drop]
  have hv : b.set i v = b.take i ++ v :: b.drop (i + 1) := List.set_eq_take_append_cons_drop.trans (if_pos hi)
  rw [hv] at h
  have h2 : M a (b.take i ++ v :: b.drop (i + 1)) = M a (b.take i ++ b.getD i 0 :: b.drop (i + 1)) := h.trans (congrArg (M a) hs)
  unfold M at h2
  have h3 := inv_inj (crcL_U _ (inv_U a)) (crcL_U _ (inv_U a)) h2
  rw [crcL_app, crcL_app] at h3
  have h4 := crcL_inj (b.drop (i + 1)) (upd_U _ _) (upd_U _ _) h3
  exact hne (upd_injr (crcL_U _ (inv_U a)) h4)

theorem byte_xor (a : Int) (j : Int) (ha : 0 ≤ a ∧ a < 256) (hj : 0 ≤ j ∧ j < 8) : (Go.bits .xor .u8 a (shl .u8 1 j)) % 4294967296 ≠ a % 4294967296 := by
  have hs : ∃ s : Nat, shl .u8 1 j = (s : Int) ∧ s < 256 ∧ s ≠ 0 := by
    have : j = 0 ∨ j = 1 ∨ j = 2 ∨ j = 3 ∨ j = 4 ∨ j = 5 ∨ j = 6 ∨ j = 7 := by omega
    rcases this with h | h | h | h | h | h | h | h <;> subst h
    · exact ⟨1, by decide +kernel, by decide, by decide⟩
    · exact ⟨2, by decide +kernel, by decide, by decide⟩
    · exact ⟨4, by decide +kernel, by decide, by decide⟩
    · exact ⟨8, by decide +kernel, by decide, by decide⟩
    · exact ⟨16, by decide +kernel, by decide, by decide⟩
    · exact ⟨32, by decide +kernel, by decide, by decide⟩
    · exact ⟨64, by decide +kernel, by decide, by decide⟩
    · exact ⟨128, by decide +kernel, by decide, by decide⟩
  obtain ⟨s, hs, h1, h2⟩ := hs
  obtain ⟨a, rfl⟩ := Int.eq_ofNat_of_zero_le ha.1
  have ha' : a < 256 := by omega
  have hx : a ^^^ s < 256 := Nat.xor_lt_two_pow (n := 8) ha' h1
  have e : Go.bits .xor .u8 (a : Int) (s : Int) = ((a ^^^ s : Nat) : Int) := by
    have e : Go.bits .xor .u8 (a : Int) (s : Int) = IntKind.u8.wrap (((BitVec.ofInt 8 (a : Int)) ^^^ (BitVec.ofInt 8 (s : Int))).toNat : Int) := rfl
    rw [e, show ∀ n, IntKind.u8.wrap n = n % 256 from fun n => by simp [IntKind.wrap, IntKind.bits, IntKind.signed], BitVec.ofInt_natCast, BitVec.ofInt_natCast, BitVec.toNat_xor, BitVec.toNat_ofNat, BitVec.toNat_ofNat, Nat.mod_eq_of_lt (by simpa using ha'), Nat.mod_eq_of_lt (by simpa using h1)]
    omega
  rw [hs, e]
  intro h
  have h' : a ^^^ s = a := by omega
  have := congrArg (a ^^^ ·) h'
  simp only [xor_back, Nat.xor_self] at this
  exact h2 this

theorem goes_j1 (k : Nat) (b : List Int) (at_ : Int) (hl : b.length ≤ 1000) (hb : ∀ x ∈ b, 0 ≤ x ∧ x < 256) (hk : 3001 ≤ k) : cordwainlaw2_CrcGoes.j1 k b at_ false = some true := by
  obtain ⟨k, rfl, hk⟩ := succ_of hk
  simp only [cordwainlaw2_CrcGoes.j1]
  rw [if_neg (by decide), awake_f k (by omega), Option.bind_some]
  by_cases c : (b.length : Int) > 0
  · rw [if_pos c, Option.bind_some, if_pos (by simp; omega), Option.bind_some, List.nil_append, w64 (x := 8 * (b.length : Int)) (by omega) (by omega)]
    have hr : ∃ r, cordwainalike_Round.f at_ (8 * (b.length : Int)) = some r ∧ 0 ≤ r ∧ r < 8 * (b.length : Int) := by
      unfold cordwainalike_Round.f
      rw [if_neg (by omega)]
      have h1 := Int.tmod_lt_of_pos at_ (show 0 < 8 * (b.length : Int) by omega)
      have h2 := Int.tmod_lt_of_pos (-at_) (show 0 < 8 * (b.length : Int) by omega)
      rw [Int.neg_tmod] at h2
      by_cases d : Int.tmod at_ (8 * (b.length : Int)) < 0
      · rw [if_pos d, w64 (by omega) (by omega)]; exact ⟨_, rfl, by omega, by omega⟩
      · rw [if_neg d]; exact ⟨_, rfl, by omega, by omega⟩
    obtain ⟨r, hr, r0, r1⟩ := hr
    have ed : Int.tdiv r 8 = r / 8 := Int.tdiv_eq_ediv_of_nonneg r0
    have em : Int.tmod r 8 = r % 8 := Int.tmod_eq_emod_of_nonneg r0
    rw [hr, Option.bind_some, ed, em, w64 (x := r / 8) (by omega) (by omega), if_pos (by omega), if_pos (by omega), if_pos (by omega)]
    have hi : (r / 8).toNat < b.length := by omega
    have hrd : rd b (r / 8) = b.getD (r / 8).toNat 0 := rfl
    have hmem : rd b (r / 8) ∈ b := by
      rw [hrd, List.getD_eq_getElem?_getD, List.getElem?_eq_getElem hi, Option.getD_some]; exact List.getElem_mem hi
    generalize hv : Go.bits .xor .u8 (rd b (r / 8)) (shl .u8 1 (r % 8)) = v
    have hne : v % 4294967296 ≠ (b.getD (r / 8).toNat 0) % 4294967296 := by
      rw [← hv, ← hrd]; exact byte_xor _ _ (hb _ hmem) ⟨by omega, by omega⟩
    rw [sum_f k [b.set (r / 8).toNat v] 1000 (by simp) (fun x h => by rw [List.mem_singleton.1 h, List.length_set]; exact hl) (by omega) (by simp; omega), Option.bind_some,
      sum_f k [b] 1000 (by simp) (fun x h => by rw [List.mem_singleton.1 h]; exact hl) (by omega) (by simp; omega), Option.bind_some]
    rw [if_neg (by simpa using M_other 0 b (r / 8).toNat v hi hne)]
  · rw [if_neg c]; rfl

theorem goes_j0 (k : Nat) (b m : List Int) (at_ : Int) (hl : b.length ≤ 1000) (hm : m.length ≤ 1000) (hb : ∀ x ∈ b, 0 ≤ x ∧ x < 256) (hk : 3002 ≤ k) : cordwainlaw2_CrcGoes.j0 k b m at_ false = some true := by
  obtain ⟨k, rfl, hk⟩ := succ_of hk
  simp only [cordwainlaw2_CrcGoes.j0]
  unfold crc_Roller_Add.f crc_Roller_Sum.f
  rw [if_neg (by decide), more_f k 0 b (by omega) (by omega)]
  simp only [Option.bind_some]
  rw [more_f k (M 0 b) m (by omega) (by omega), sum_f k [b] 1000 (by simp) (fun x h => by rw [List.mem_singleton.1 h]; exact hl) (by omega) (by simp; omega),
    sum_f k [b, m] 1000 (by simp) (fun x h => by rcases List.mem_cons.1 h with h | h; · rw [h]; exact hl
                                                 · rw [List.mem_singleton.1 h]; exact hm) (by omega) (by simp; omega)]
  simp only [Option.bind_some]
  rw [show [b].flatten = b from by simp, show [b, m].flatten = b ++ m from by simp, if_pos rfl, M_app, if_pos rfl, bne_self_eq_false]
  exact goes_j1 k b at_ hl hb (by omega)

theorem CrcGoes : cordwainlaw2_CrcGoes.Pure := by
  intro b m at_ _ _ hb _ _ _ _
  have hb' : ∀ x ∈ b, 0 ≤ x ∧ x < 256 := fun x hx => by
    have h := hb x hx
    have h' : 0 ≤ x ∧ x ≤ 255 := by simpa [Lit.wf, IntKind.min, IntKind.max, IntKind.bits, IntKind.signed] using h
    omega
  refine ⟨3002, ?_⟩
  generalize hk : (3002 : Nat) = k
  have hk' : 3002 ≤ k := by omega
  clear hk
  have ht : cordwainlaw2_CrcGoes.j0 k b m at_ true = some true := by
    obtain ⟨k, rfl, hk⟩ := succ_of hk'
    simp only [cordwainlaw2_CrcGoes.j0]
    rw [if_pos trivial, awake_f k (by omega)]; rfl
  unfold cordwainlaw2_CrcGoes.f
  by_cases c1 : (b.length : Int) > 1000
  · rw [if_pos c1, ht]
  rw [if_neg c1]
  by_cases c2 : (m.length : Int) > 1000
  · rw [decide_eq_true c2, ht]
  rw [decide_eq_false c2]
  exact goes_j0 k b m at_ (by omega) (by omega) hb' hk'

end Go.Proofs.Ytakodondlmiklaa.Pure
