/- The map of offsets by keys, in plain words: what is looked up behind what was put in. -/
import Derived.Test.YtpibjdkenifggaaKMS
import Derived.Maps.Views
namespace Go.Proofs.Ytpibjdkenifggaa.KM
open Go.RowKit Go.Maps Go.MapKept Go.ChangeMaps Go.WideElems Go.WideMaps Go.WideShapes Go.Proofs.YtpibjdkenifggaaW.PrintWords

/-- Bytes, as a slice of them reads. -/
def Bytes (l : List Int) : Prop := ∀ b ∈ l, (Lit.int .u8 b).wf = true
theorem byte_range {b : Int} (h : (Lit.int .u8 b).wf = true) : 0 ≤ b ∧ b < 256 := by
  simp only [Lit.wf, Bool.and_eq_true, decide_eq_true_eq] at h
  have h1 : IntKind.u8.min = 0 := by decide
  have h2 : IntKind.u8.max = 255 := by decide
  omega
theorem str_inj {a b : List Int} (ha : Bytes a) (hb : Bytes b) (h : (strOfNums a).data.toList = (strOfNums b).data.toList) : a = b := by
  unfold strOfNums at h
  simp at h
  induction a generalizing b with
  | nil => cases b with
    | nil => rfl
    | cons y b => simp at h
  | cons x a ih => cases b with
    | nil => simp at h
    | cons y b =>
      simp only [List.map_cons, List.cons.injEq] at h
      have hx := byte_range (ha x (by simp))
      have hy := byte_range (hb y (by simp))
      have e : x = y := by
        have h1 := congrArg UInt8.toNat h.1
        simp at h1
        omega
      rw [e, ih (fun z hz => ha z (by simp [hz])) (fun z hz => hb z (by simp [hz])) h.2]
theorem kl_inj {a b : List Int} (ha : Bytes a) (hb : Bytes b) (h : kl a = kl b) : a = b := by
  unfold kl at h
  injection h with h
  exact str_inj ha hb h
theorem kl_key (a : List Int) : WideAt.IsKeyLit (kl a) := trivial

/-- What is there at a key. -/
def look (D : DataW Unit) (k : List Int) : Option Int := if Maps.has D (kl k) = true then some (val (D.atKey (kl k) (.lit (.int .i64 0)))) else none
theorem look_put {D : DataW Unit} (hD : Tidy D) {k k' : List Int} (hk : Bytes k) (hk' : Bytes k') (v : Int) : look (D.put (kl k) (.lit (.int .i64 v))) k' = if k' = k then some v else look D k' := by
  unfold look
  by_cases e : k' = k
  · subst e
    rw [if_pos rfl, has_put_same hD.isMap (kl_key _), if_pos rfl, atKey_put_same hD.isMap (kl_key _)]
    rfl
  · have hne : kl k' ≠ kl k := fun h => e (kl_inj hk' hk h)
    rw [if_neg e, has_put_other hne, atKey_put_other hne]
theorem look_nil (k : List Int) : look (.map []) k = none := rfl
theorem has_of_look (D : DataW Unit) (k : List Int) : Maps.has D (kl k) = (look D k).isSome := by
  unfold look
  by_cases h : Maps.has D (kl k) = true
  · rw [if_pos h, h]; rfl
  · rw [if_neg h]; simpa using h
theorem last_of_look (D : DataW Unit) (k : List Int) : last D (kl k) = ((look D k).getD 0, (look D k).isSome) := by
  unfold last
  rw [has_of_look]
  unfold look
  by_cases h : Maps.has D (kl k) = true
  · rw [if_pos h]; rfl
  · rw [if_neg h]
    simp only [Option.getD_none, Option.isSome_none, Prod.mk.injEq, and_true]
    rw [atKey_of_not_has (by simpa using h)]
    rfl
/-- An offer, by what is there. -/
theorem offer_of_look (most : Int) (D : DataW Unit) (k : List Int) (off : Int) : offer most D (kl k) off =
    match look D k with
    | some v => (true, D.put (kl k) (.lit (.int .i64 (max off v))))
    | none => if (Maps.size D : Int) ≥ most then (false, D) else (true, D.put (kl k) (.lit (.int .i64 off))) := by
  unfold offer look
  by_cases h : Maps.has D (kl k) = true
  · rw [if_pos h, if_pos h]
  · rw [if_neg h, if_neg h]
theorem size_put_look {D : DataW Unit} (hD : Tidy D) (k : List Int) (d : DataW Unit) : Maps.size (D.put (kl k) d) = if (look D k).isSome = true then Maps.size D else Maps.size D + 1 := by
  rw [size_put hD, has_of_look]
/-- Behind an offer that found room. -/
theorem offer_room {most : Int} {D : DataW Unit} (hD : Tidy D) {k : List Int} (hk : Bytes k) (off : Int) (hs : (Maps.size D : Int) < most) :
    ∃ D', offer most D (kl k) off = (true, D') ∧ Tidy D' ∧ Maps.size D' ≤ Maps.size D + 1 ∧ ∀ k', Bytes k' → look D' k' = if k' = k then some (match look D k with | some v => max off v | none => off) else look D k' := by
  rw [offer_of_look]
  cases h : look D k with
  | some v => exact ⟨_, rfl, hD.put (kl_key _) _, by rw [size_put_look hD]; split <;> omega, fun k' hk' => look_put hD hk hk' _⟩
  | none =>
    simp only
    rw [if_neg (by omega)]
    exact ⟨_, rfl, hD.put (kl_key _) _, by rw [size_put_look hD]; split <;> omega, fun k' hk' => look_put hD hk hk' _⟩

end Go.Proofs.Ytpibjdkenifggaa.KM
