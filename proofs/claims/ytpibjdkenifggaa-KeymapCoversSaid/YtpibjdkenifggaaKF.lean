/- How many keys of a batch a map does not know. -/
import Derived.Test.YtpibjdkenifggaaKV
import Derived.Test.YtpibjdkenifggaaAwake
import Derived.Deep.LoopGhost
import Derived.LoopTactic
import Derived.StillTailTactics
import Derived.Maps.OwnOps
namespace Go.Proofs.Ytpibjdkenifggaa.KM
open Go.RowKit Go.Maps Go.MapKept Go.ChangeMaps Go.WideElems Go.WideMaps Go.WideShapes Go.Proofs.YtpibjdkenifggaaW.PrintWords Go.Proofs.YtpibjdkenifggaaW.PrintLast Go.Proofs.YtpibjdkenifggaaW.PrintMore Go.Proofs.Ytpibjdkenifggaa.PKeymapCovers
set_option linter.unusedVariables false

/-- A set of keys: a map whose numbers nobody asks. -/
def Met (D : DataW Unit) (F : List S42) : Prop := Tidy D ∧ Maps.size D = (keysOf F).length ∧ ∀ key, Bytes key → ((look D key).isSome = true ↔ key ∈ keysOf F)
theorem met_nil : Met (.map []) [] := ⟨tidy_empty, rfl, fun key _ => by rw [look_nil]; simp [keysOf]⟩
theorem met_put {D : DataW Unit} {F : List S42} {x : S42} (h : Met D F) (hx : Bytes x.f3) (v : Int) : Met (D.put (kl x.f3) (.lit (.int .i64 v))) (F ++ [x]) := by
  obtain ⟨h1, h2, h3⟩ := h
  refine ⟨h1.put (kl_key _) _, ?_, fun key hkey => ?_⟩
  · rw [size_put_look h1, keysOf_snoc]
    have := h3 _ hx
    by_cases hin : x.f3 ∈ keysOf F
    · rw [if_pos hin, if_pos (this.2 hin), h2]
    · rw [if_neg hin, if_neg (fun hh => hin (this.1 hh)), h2]; simp
  · rw [look_put h1 hx hkey, keysOf_snoc]
    by_cases e : key = x.f3
    · rw [if_pos e]
      subst e
      by_cases hin : x.f3 ∈ keysOf F
      · rw [if_pos hin]; simp [hin]
      · rw [if_neg hin]; simp
    · rw [if_neg e, h3 _ hkey]
      by_cases hin : x.f3 ∈ keysOf F
      · rw [if_pos hin]
      · rw [if_neg hin]; simp [e]
theorem wrap_wf (x : Int) : (Lit.int .i64 (wrap64 x)).wf = true := by
  simp only [Lit.wf, Bool.and_eq_true, decide_eq_true_eq]
  have h1 : IntKind.i64.min = -9223372036854775808 := by decide
  have h2 : IntKind.i64.max = 9223372036854775807 := by decide
  unfold wrap64
  omega
theorem rdr (l : List S42) (j : Nat) (h : j < l.length) : rd_T42 l (j : Int) = l[j] := by
  simp [rd_T42, List.getD_eq_getElem?_getD, h]

def FreshRel (w : World) (rs : List S42) (D : DataW Unit) (from_ : Int) (b : Nat) (i : Value) (wr : World) : Prop :=
  ∃ (k : Nat) (E : DataW Unit), i = .int .i64 k ∧ k ≤ rs.length ∧ wr.ownsMap Try.prog 9 (plainElem Try.prog 3) b (Maps.size E) E ∧ Met E ((rs.take k).filter (newd D from_)) ∧ Below w.heap.size w wr

set_option maxHeartbeats 4000000 in
set_option maxRecDepth 100000 in
theorem fresh_km {w0 w : World} {most : Int} {D : DataW Unit} {g : Nat} (x : S40) (A : Option Addr) (c : Nat) (from_ : Int) (hI : IsKM w0 w g most D) (hc : x.f5.length ≤ c) (hr : Kd.C k42 w A x.f5.length x.f5)
    (hb : ∀ r ∈ x.f5, Bytes r.f3) (hl : x.f5.length ≤ 4000) :
    Calls Try.prog 50 #[.pointer (some ⟨g, 0, none⟩), .agg #[.int .i64 x.f0, .int .i64 x.f1, .int .i64 x.f2, .int .i64 x.f3, .int .i64 x.f4, .slice A x.f5.length c], .int .i64 from_] w
      fun e w' => e = .returned (.int .i64 (freshN D from_ x.f5)) ∧ Below w.heap.size w w' := by
  have HR := Aside0.mk hr
  have HI := Aside0.mk hI
  have HQ := Aside0.mk hb
  clear hr hI hb
  have hmm := @run_makeMap Try.prog
  go_enter Try.func50, Try.ntmps50
  go_wp2_with fail
  go_loopw [16] (fun i wr => FreshRel w x.f5 D from_ (w.heap.size + 1) i wr) (fun i _ => x.f5.length - (intOf i).toNat)
  case atStart =>
    have h0 := World.ownsMap_made (w.alloc (.cells #[.int .i64 x.f0, .int .i64 x.f1, .int .i64 x.f2, .int .i64 x.f3, .int .i64 x.f4, .slice A x.f5.length c] 40)) Try.prog 9 (plainElem (H := Unit) Try.prog 3)
    rw [show ∀ o, (w.alloc o).heap.size = w.heap.size + 1 from fun o => by show (w.heap.push _).size = _; simp] at h0
    exact ⟨0, .map [], rfl, Nat.zero_le _, h0, met_nil, below_alloc (below_alloc (Below.refl _ _) _) _⟩
  case round =>
    obtain ⟨k, E, rfl, hk, hown, hmet, hB⟩ := hrel
    have HB := Aside0.mk hB
    clear hmm
    by_cases hlt : k < x.f5.length
    · obtain ⟨ad, A3, c3, A5, c5, e1, hx0, hx1, hx2, hx3, hx4, hx5, hl3, hr3, hl5, hr5⟩ := at_T42 (Kd.C_below HR.out hB) (k : Int) (by omega) (by omega)
      subst e1
      simp only [Int.toNat_natCast] at hx0 hx1 hx2 hx3 hx4 hx5
      rw [rdr _ _ hlt] at hx0 hx1 hx2 hx3 hx4 hx5 hl3 hr3 hl5 hr5
      have hby : Bytes (x.f5[k]).f3 := HQ.out _ (List.getElem_mem hlt)
      have htf := take_filter (newd D from_) x.f5 k hlt
      have HT := Aside0.mk htf
      have HM := Aside0.mk hmet
      have HBy := Aside0.mk hby
      clear htf hmet hby hB
      generalize x.f5[k] = r at *
      have hw1 : wrap64 ((k : Int) + 1) = (k : Int) + 1 := by unfold wrap64; omega
      have hIn := (HI.out.below HB.out).alloc (.cells #[.int .i64 r.f0, .int .i64 r.f1, .bool r.f2, .slice A3 r.f3.length c3, .bool r.f4, .slice A5 r.f5.length c5] 42)
      have hEs : Maps.size E < 4001 := by
        have h1 := HM.out.2.1
        have h2 : ∀ F : List S42, (keysOf F).length ≤ F.length := fun F => by
          refine snoc_ind (P := fun F => (keysOf F).length ≤ F.length) (by simp [keysOf]) (fun F y ih => ?_) F
          rw [keysOf_snoc]
          split <;> simp <;> omega
        have h3 := h2 ((x.f5.take k).filter (newd D from_))
        have h4 : ((x.f5.take k).filter (newd D from_)).length ≤ (x.f5.take k).length := List.length_filter_le _ _
        have h5 : (x.f5.take k).length ≤ k := List.length_take_le _ _
        omega
      go_wp2_with fail
      refine (last_to (w0 := w0) (last_of_look D r.f3) hIn (Kd.C_alloc hr3 _)).mono ?_
      rintro e w' ⟨rfl, nd, rfl⟩
      by_cases hnew : newd D from_ r = true
      · have hn2 := hnew
        unfold newd offd at hn2
        simp only [Bool.and_eq_true, decide_eq_true_eq] at hn2
        obtain ⟨⟨hk1, hk2⟩, hk3⟩ := hn2
        have hk4 : (look D r.f3).isSome = false := by cases hh : look D r.f3 <;> simp_all
        have HT2 : Aside0 ((x.f5.take (k + 1)).filter (newd D from_) = (x.f5.take k).filter (newd D from_) ++ [r]) := ⟨by rw [HT.out, if_pos hnew]⟩
        clear hnew hk3 HT
        rw [hk1] at hx2
        rw [hk1, hk4]
        have hkey := key_of (l := r.f3) hr3.2.1
        have hcv := Kd.C_string (P := Try.prog) (A := A3) (c := c3) Try.underlying24 Try.underlying5 Try.underlying9 (Kd.C_drewN (Kd.C_alloc hr3 (.cells #[.int .i64 r.f0, .int .i64 r.f1, .bool true, .slice A3 r.f3.length c3, .bool r.f4, .slice A5 r.f5.length c5] 42)) nd)
        have hoX : ((wr.alloc (.cells #[.int .i64 r.f0, .int .i64 r.f1, .bool true, .slice A3 r.f3.length c3, .bool r.f4, .slice A5 r.f5.length c5] 42)).drewN nd).ownsMap Try.prog 9 (plainElem Try.prog 3) (w.heap.size + 1) (Maps.size E) E := hown.alloc _
        obtain ⟨cv, hlk, hat, hwf⟩ := hoX.lookup_int law9 Try.underlying93 Try.underlying3 (zero3 _) hkey
        obtain ⟨w3, hup, ho3, hg3⟩ := hoX.update law9 Try.underlying93 (by unfold maxLen; omega) hkey (plainElem_int Try.underlying3 (by exact wrap_wf (cv + 1)))
        clear hwf hkey hat hown hoX hIn
        go_wp2_with fail
        go_roundw
        case rel =>
          refine ⟨k + 1, _, by go_num, by omega, tight ho3, ?_, ?_⟩
          · rw [HT2.out]; exact met_put HM.out HBy.out _
          · refine ⟨hg3.os.trans HB.out.os, hg3.tape.trans HB.out.tape, hg3.output.trans HB.out.output, ?_, fun j hj => ?_⟩
            · have h1 := hg3.size
              have h2 := HB.out.size
              have h3 : ((wr.alloc (.cells #[.int .i64 r.f0, .int .i64 r.f1, .bool true, .slice A3 r.f3.length c3, .bool r.f4, .slice A5 r.f5.length c5] 42)).drewN nd).heap.size = wr.heap.size + 1 := by show (wr.heap.push _).size = _; simp
              omega
            · have h2 := HB.out.size
              have h3 : ((wr.alloc (.cells #[.int .i64 r.f0, .int .i64 r.f1, .bool true, .slice A3 r.f3.length c3, .bool r.f4, .slice A5 r.f5.length c5] 42)).drewN nd).heap.size = wr.heap.size + 1 := by show (wr.heap.push _).size = _; simp
              exact (hg3.block j (by omega) (fun he => by injection he with he; omega)).trans ((pw_below_drewN (below_alloc HB.out _) nd).block j hj)
        case measure => simp [intOf]; omega
      · have HT2 : Aside0 ((x.f5.take (k + 1)).filter (newd D from_) = (x.f5.take k).filter (newd D from_)) := ⟨by rw [HT.out, if_neg hnew, List.append_nil]⟩
        clear HT
        have HO := Aside0.mk hown
        clear hown hIn
        cases hk1 : r.f2
        · rw [hk1] at hx2
          clear hnew
          go_wp2_with fail
          go_roundw
          case rel => exact ⟨k + 1, E, by go_num, by omega, HO.out.alloc _, by rw [HT2.out]; exact HM.out, pw_below_drewN (below_alloc HB.out _) nd⟩
          case measure => simp [intOf]; omega
        · rw [hk1] at hx2
          by_cases hge : from_ ≤ r.f0
          · have hk4 : (look D r.f3).isSome = true := by
              cases hh : look D r.f3 with
              | some v => rfl
              | none => exact absurd (by unfold newd offd; rw [hk1, hh]; simp [hge]) hnew
            rw [hk4]
            clear hnew
            go_wp2_with fail
            go_roundw
            case rel => exact ⟨k + 1, E, by go_num, by omega, HO.out.alloc _, by rw [HT2.out]; exact HM.out, pw_below_drewN (below_alloc HB.out _) nd⟩
            case measure => simp [intOf]; omega
          · clear hnew
            go_wp2_with fail
            go_roundw
            case rel => exact ⟨k + 1, E, by go_num, by omega, HO.out.alloc _, by rw [HT2.out]; exact HM.out, pw_below_drewN (below_alloc HB.out _) nd⟩
            case measure => simp [intOf]; omega
    · have hke : k = x.f5.length := by omega
      have hfr : freshN D from_ x.f5 = Maps.size E := by
        unfold freshN
        rw [hmet.2.1, hke, List.take_length]
      have HF := Aside0.mk hfr
      have hln := hown.len Try.underlying93 3
      clear hke hfr hmet hown
      go_wp2_with fail
      go_ret
      exact ⟨congrArg (fun n : Nat => Ending.returned (.int .i64 n)) HF.out.symm, hB⟩
end Go.Proofs.Ytpibjdkenifggaa.KM
