/- Sums of bytes: what the program and the document compute, in plain words. -/
import Derived.Test.YtakodondlmiklaaPCrcGoesx2
import Derived.Laws.BitsLemmas
namespace Go.Proofs.Ytakodondlmiklaa.PCrcGoesU
open Go.RowKit Go.Proofs.Ytakodondlmiklaa.PCrcGoes Go.Proofs.YtakodondlmiklaaW.PrintWords Go.Proofs.YtakodondlmiklaaW.PrintLast Go.Proofs.YtakodondlmiklaaW.PrintMore

theorem w64 {x : Int} (h0 : -9223372036854775808 ≤ x) (h1 : x < 9223372036854775808) : wrap64 x = x := by
  unfold wrap64
  rw [Int.emod_eq_of_lt (by omega) (by omega)]
  omega
theorem succ_of {n k : Nat} (h : n + 1 ≤ k) : ∃ q, k = q + 1 ∧ n ≤ q := ⟨k - 1, by omega, by omega⟩
theorem awake_f (k : Nat) (hk : 40 ≤ k) : cordwainlaw2_awake.f k = some true := at_rounds cordwainlaw2_awake.mono hk (by decide +kernel)

theorem wrap_u32 (n : Int) : IntKind.u32.wrap n = n % 4294967296 := by simp [IntKind.wrap, IntKind.bits, IntKind.signed]
theorem xor_bv (a b : Int) : Go.bits .xor .u32 a b = IntKind.u32.wrap (((BitVec.ofInt 32 a) ^^^ (BitVec.ofInt 32 b)).toNat : Int) := rfl
theorem and_bv (a b : Int) : Go.bits .and .u32 a b = IntKind.u32.wrap (((BitVec.ofInt 32 a) &&& (BitVec.ofInt 32 b)).toNat : Int) := rfl
def U (x : Int) : Prop := 0 ≤ x ∧ x < 4294967296
theorem xor_U (a b : Int) : U (Go.bits .xor .u32 a b) := by
  rw [xor_bv, wrap_u32]
  exact ⟨Int.emod_nonneg _ (by decide), Int.emod_lt_of_pos _ (by decide)⟩
theorem xor_u32 (a b : Nat) (ha : a < 4294967296) (hb : b < 4294967296) : Go.bits .xor .u32 a b = ((a ^^^ b : Nat) : Int) := by
  have hx : a ^^^ b < 4294967296 := Nat.xor_lt_two_pow (n := 32) ha hb
  rw [xor_bv, wrap_u32, BitVec.ofInt_natCast, BitVec.ofInt_natCast, BitVec.toNat_xor, BitVec.toNat_ofNat, BitVec.toNat_ofNat, Nat.mod_eq_of_lt (by simpa using ha), Nat.mod_eq_of_lt (by simpa using hb)]
  omega
theorem nat_of {x : Int} (h : U x) : ∃ a : Nat, x = (a : Int) ∧ a < 4294967296 := ⟨x.toNat, by have := h.1; omega, by have := h.1; have := h.2; omega⟩
theorem xor_zero {x : Int} (h : U x) : Go.bits .xor .u32 x 0 = x := by
  obtain ⟨a, rfl, ha⟩ := nat_of h
  rw [show (0 : Int) = ((0 : Nat) : Int) from rfl, xor_u32 a 0 ha (by decide), Nat.xor_zero]
def inv (x : Int) : Int := Go.bits .xor .u32 4294967295 x
theorem inv_inv {x : Int} (h : U x) : inv (inv x) = x := by
  obtain ⟨a, rfl, ha⟩ := nat_of h
  unfold inv
  rw [show (4294967295 : Int) = ((4294967295 : Nat) : Int) from rfl, xor_u32 _ a (by decide) ha, xor_u32 _ _ (by decide) (Nat.xor_lt_two_pow (n := 32) (by decide) ha), ← Nat.xor_assoc, Nat.xor_self, Nat.zero_xor]
theorem inv_U (x : Int) : U (inv x) := xor_U _ _
theorem and_one (x : Int) : Go.bits .and .u32 x 1 = 0 ∨ Go.bits .and .u32 x 1 = 1 := by
  rw [and_bv, wrap_u32, show BitVec.ofInt 32 (1 : Int) = 1#32 from rfl, BitVec.toNat_and, show (1#32).toNat = 1 from rfl, Nat.and_one_is_mod]
  omega

/-- One bit. -/
def T (x : Int) : Int := if Go.bits .and .u32 x 1 = 1 then Go.bits .xor .u32 (x / 2) 2197175160 else x / 2
theorem T_U {x : Int} (h : U x) : U (T x) := by
  unfold T
  split
  · exact xor_U _ _
  · exact ⟨by have := h.1; omega, by have := h.2; have := h.1; omega⟩
theorem T_prog {x : Int} (h : U x) : Go.bits .xor .u32 (x / 2) (Go.bits .and .u32 2197175160 ((-(Go.bits .and .u32 x 1)) % 4294967296)) = T x := by
  have h2 : U (x / 2) := ⟨by have := h.1; omega, by have := h.2; have := h.1; omega⟩
  unfold T
  rcases and_one x with e | e
  · rw [e, if_neg (by decide), show Go.bits .and .u32 2197175160 ((-(0 : Int)) % 4294967296) = 0 from by decide +kernel, xor_zero h2]
  · rw [e, if_pos rfl, show Go.bits .and .u32 2197175160 ((-(1 : Int)) % 4294967296) = 2197175160 from by decide +kernel]
def Tn : Nat → Int → Int
  | 0, x => x
  | n + 1, x => Tn n (T x)
theorem Tn_U : ∀ (n : Nat) {x : Int}, U x → U (Tn n x)
  | 0, _, h => h
  | n + 1, _, h => Tn_U n (T_U h)
/-- One byte. -/
def upd (x c : Int) : Int := Tn 8 (Go.bits .xor .u32 x (c % 4294967296))
theorem upd_U (x c : Int) : U (upd x c) := Tn_U 8 (xor_U _ _)

theorem step_l : ∀ (m k : Nat) (i x : Int), i + m = 8 → 0 ≤ i → U x → m + 1 ≤ k → crc_step.l0 k x i = some (Tn m x)
  | 0, k, i, x, e, h0, h, hk => by
    obtain ⟨k, rfl, hk⟩ := succ_of hk
    simp only [crc_step.l0]
    rw [if_neg (by omega)]; rfl
  | m + 1, k, i, x, e, h0, h, hk => by
    obtain ⟨k, rfl, hk⟩ := succ_of hk
    simp only [crc_step.l0]
    rw [if_pos (by omega), T_prog h, w64 (by omega) (by omega)]
    exact step_l m k (i + 1) (T x) (by omega) (by omega) (T_U h) (by omega)
theorem step_f (k : Nat) (x c : Int) (hk : 9 ≤ k) : crc_step.f k x c = some (upd x c) := step_l 8 k 0 _ (by omega) (by omega) (xor_U _ _) (by omega)

/-- Bytes. -/
def crcL : Int → List Int → Int
  | x, [] => x
  | x, c :: d => crcL (upd x c) d
theorem crcL_U : ∀ (l : List Int) {x : Int}, U x → U (crcL x l)
  | [], _, h => h
  | c :: d, _, _ => crcL_U d (upd_U _ c)
theorem crcL_app : ∀ (l m : List Int) (x : Int), crcL x (l ++ m) = crcL (crcL x l) m
  | [], _, _ => rfl
  | c :: d, m, x => crcL_app d m (upd x c)

theorem rd_mid (p d : List Int) (x : Int) : rd (p ++ x :: d) (p.length : Int) = x := by simp [rd, List.getD]

theorem more_l : ∀ (d p l : List Int) (k : Nat) (x : Int), l = p ++ d → l.length ≤ 9223372036854775807 → d.length + 11 ≤ k → crc_More.l0 k x l (l.length : Int) (p.length : Int) = some (inv (crcL x d))
  | [], p, l, k, x, e, hl, hk => by
    obtain ⟨k, rfl, hk⟩ := succ_of (show 0 + 1 ≤ k by omega)
    simp only [crc_More.l0]
    rw [if_neg (by subst e; simp)]; rfl
  | c :: d, p, l, k, x, e, hl, hk => by
    obtain ⟨k, rfl, hk⟩ := succ_of (show d.length + 11 + 1 ≤ k by simp at hk; omega)
    have hn : l.length = p.length + d.length + 1 := by subst e; simp; omega
    have hx : rd l (p.length : Int) = c := by subst e; exact rd_mid p d c
    have ih := more_l d (p ++ [c]) l k (upd x c) (by subst e; simp) hl (by omega)
    simp only [crc_More.l0]
    rw [if_pos (by omega), if_pos (by omega), if_pos (by omega), hx, step_f k x c (by omega), Option.bind_some, w64 (by omega) (by omega), show ((p.length : Int) + 1) = ((p ++ [c]).length : Int) from by simp]
    exact ih

/-- A sum that goes on. -/
def M (a : Int) (l : List Int) : Int := inv (crcL (inv a) l)
theorem more_f (k : Nat) (a : Int) (l : List Int) (hl : l.length ≤ 9223372036854775807) (hk : l.length + 11 ≤ k) : crc_More.f k a l = some (M a l) := more_l l [] l k _ rfl hl hk
theorem M_app (a : Int) (l m : List Int) : M (M a l) m = M a (l ++ m) := by
  unfold M
  rw [inv_inv (crcL_U l (inv_U a)), ← crcL_app]
theorem M_nil {a : Int} (h : U a) : M a [] = a := inv_inv h
theorem M_U (a : Int) (l : List Int) : U (M a l) := inv_U _

theorem rdL_mid (p d : List (List Int)) (x : List Int) : rd_L1 (p ++ x :: d) (p.length : Int) = x := by simp [rd_L1, List.getD]

theorem sum_l : ∀ (d p l : List (List Int)) (k : Nat) (s : Int) (n : Nat), U s → l = p ++ d → l.length ≤ 9223372036854775807 → (∀ x ∈ d, x.length ≤ n) → n ≤ 9223372036854775807 → d.length + n + 12 ≤ k →
    crc_Sum.l0 k s l (l.length : Int) (p.length : Int) = some (M s d.flatten)
  | [], p, l, k, s, n, hU, e, hl, hd, hn, hk => by
    obtain ⟨k, rfl, hk⟩ := succ_of (show 0 + 1 ≤ k by omega)
    simp only [crc_Sum.l0]
    rw [if_neg (by subst e; simp), List.flatten_nil, M_nil hU]
  | c :: d, p, l, k, s, n, hU, e, hl, hd, hn, hk => by
    obtain ⟨k, rfl, hk⟩ := succ_of (show d.length + n + 12 + 1 ≤ k by simp at hk; omega)
    have hln : l.length = p.length + d.length + 1 := by subst e; simp; omega
    have hx : rd_L1 l (p.length : Int) = c := by subst e; exact rdL_mid p d c
    have hc : c.length ≤ n := hd c (by simp)
    have ih := sum_l d (p ++ [c]) l k (M s c) n (M_U _ _) (by subst e; simp) hl (fun x h => hd x (by simp [h])) hn (by omega)
    simp only [crc_Sum.l0]
    rw [if_pos (by omega), if_pos (by omega), if_pos (by omega), hx, more_f k s c (by omega) (by omega), Option.bind_some, w64 (by omega) (by omega), show ((p.length : Int) + 1) = ((p ++ [c]).length : Int) from by simp, ih, M_app, List.flatten_cons]

theorem sum_f (k : Nat) (l : List (List Int)) (n : Nat) (hl : l.length ≤ 9223372036854775807) (hd : ∀ x ∈ l, x.length ≤ n) (hn : n ≤ 9223372036854775807) (hk : l.length + n + 12 ≤ k) : crc_Sum.f k l = some (M 0 l.flatten) :=
  sum_l l [] l k 0 n ⟨by decide, by decide⟩ rfl hl hd hn hk

end Go.Proofs.Ytakodondlmiklaa.PCrcGoesU
