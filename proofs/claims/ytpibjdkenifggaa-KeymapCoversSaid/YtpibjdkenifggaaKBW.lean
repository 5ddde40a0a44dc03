/- What Build leaves. -/
import Derived.Test.YtpibjdkenifggaaKF
import Derived.Deep.RegionHeld3
import Derived.IntWalk
namespace Go.Proofs.Ytpibjdkenifggaa.KM
open Go.RowKit Go.Maps Go.MapKept Go.ChangeMaps Go.WideElems Go.WideMaps Go.WideShapes Go.Proofs.YtpibjdkenifggaaW.PrintWords Go.Proofs.YtpibjdkenifggaaW.PrintLast Go.Proofs.YtpibjdkenifggaaW.PrintMore Go.Proofs.Ytpibjdkenifggaa.PKeymapCovers
attribute [local go_sem] max2_int min2_int max_two min_two
set_option linter.unusedVariables false

theorem mx_max (a b : Int) : mx a b = max a b := by unfold mx; split <;> omega
theorem mn_min (a b : Int) : mn a b = min a b := by unfold mn; split <;> omega
theorem rdb (l : List S40) (j : Nat) (h : j < l.length) : rd_T40 l (j : Int) = l[j] := by
  simp [rd_T40, List.getD_eq_getElem?_getD, h]

theorem keysOf_length (F : List S42) : (keysOf F).length ≤ F.length := by
  refine snoc_ind (P := fun F => (keysOf F).length ≤ F.length) (by simp [keysOf]) (fun F y ih => ?_) F
  rw [keysOf_snoc]
  split <;> simp <;> omega
theorem freshN_le (D : DataW Unit) (from_ : Int) (rs : List S42) : freshN D from_ rs ≤ rs.length := Nat.le_trans (keysOf_length _) (List.length_filter_le _ _)
theorem fresh_ne {D : DataW Unit} {from_ : Int} {rs : List S42} (h : 0 < freshN D from_ rs) : rs ≠ [] := by
  rintro rfl
  simp [freshN, keysOf] at h
theorem meas (j n : Nat) (h : j < n) : n - (intOf (.int .i64 ((j : Int) + 1))).toNat < n - (intOf (.int .i64 (j : Int))).toNat := by simp [intOf]; omega
def InRelB (w : World) (M : Int) (g bx : Nat) (bo : Obj) (R : List S42) (rs : List S42) (from_ : Int) (i : Value) (wr : World) : Prop :=
  ∃ (k : Nat) (D : DataW Unit), i = .int .i64 k ∧ k ≤ rs.length ∧ IsKM w wr g M D ∧ Holds D (R ++ (rs.take k).filter (offd from_)) ∧ (Maps.size D : Int) ≤ M ∧ Below w.heap.size w wr ∧ wr.heap[bx]? = some bo

def BuildPost (w : World) (l : List S40) (from_ M : Int) (e : Ending) (w' : World) : Prop :=
  ∃ (g : Nat) (D : DataW Unit) (u : Int), e = .returned (.tuple #[.pointer (some ⟨g, 0, none⟩), .int .i64 u]) ∧ IsKM w w' g M D ∧ Built from_ M l D u ∧ Below w.heap.size w w'
def OutRel (w : World) (l : List S40) (from_ M : Int) (g : Nat) (i u : Value) (wr : World) : Prop :=
  ∃ (k : Nat) (D : DataW Unit), i = .int .i64 k ∧ u = .int .i64 (upto from_ (l.take k)) ∧ k ≤ l.length ∧ IsKM w wr g M D ∧ Holds D ((flat (l.take k)).filter (offd from_)) ∧ (Maps.size D : Int) ≤ M ∧ Below w.heap.size w wr

set_option maxHeartbeats 4000000 in
set_option maxRecDepth 100000 in
theorem build_km {w : World} (l : List S40) (A : Option Addr) (c : Nat) (from_ most : Int) (hc : l.length ≤ c) (hr : Kd.C k40 w A l.length l)
    (hb : ∀ b ∈ l, (∀ r ∈ b.f5, Bytes r.f3 ∧ (Lit.int .i64 r.f0).wf = true) ∧ b.f5.length ≤ 4000) (hl : l.length ≤ 4000) :
    Calls Try.prog 19 #[.slice A l.length c, .int .i64 from_, .int .i64 most] w (BuildPost w l from_ (min (max most 1) 1000000)) := by
  have HR := Aside0.mk hr
  have HQ := Aside0.mk hb
  clear hr hb
  obtain ⟨M, hM⟩ : ∃ M, M = min (max most 1) 1000000 := ⟨_, rfl⟩
  rw [← hM]
  obtain ⟨M1, hM1⟩ : ∃ M1, M1 = max most 1 := ⟨_, rfl⟩
  have hm1 : (if most < 1 then 1 else most) = M1 := by split <;> omega
  have hm2 : (if 1000000 < M1 then 1000000 else M1) = M := by rw [hM]; split <;> omega
  have hMa : 1 ≤ M := by omega
  have hMb : M ≤ 1000000 := by omega
  clear hM hM1
  go_enter Try.func19, Try.ntmps19
  go_wp2_with fail
  go_step3
  go_wp2_with fail
  refine (new_km (w0 := w) hMa hMb (Below.refl _ _)).mono ?_
  rintro e w1 ⟨g, rfl, hI, hB, _, hge⟩
  clear hm1 hm2
  go_wp2_with fail
  go_step3
  go_wp2_with fail
  go_loopw [25, 10] (fun i u wr => OutRel w l from_ M g i u wr) (fun i _ _ => l.length - (intOf i).toNat)
  case atStart => exact ⟨0, .map [], rfl, rfl, Nat.zero_le _, hI, holds_nil, (by show ((0 : Nat) : Int) ≤ M; omega), hB⟩
  case round =>
    obtain ⟨k, D, rfl, rfl, hk, hI2, hh, hs, hB2⟩ := hrel
    clear hI hB
    by_cases hlt : k < l.length
    · obtain ⟨ad, A5, c5, e1, hx0, hx1, hx2, hx3, hx4, hx5, hl5, hr5⟩ := at_T40 HR.out (k : Int) (by omega) (by omega)
      subst e1
      simp only [Int.toNat_natCast] at hx0 hx1 hx2 hx3 hx4 hx5
      rw [rdb _ _ hlt] at hx0 hx1 hx2 hx3 hx4 hx5 hl5 hr5
      replace hx0 := (hB2.cell (World.block_lt_of_cell? _ _ hx0)).trans hx0
      replace hx1 := (hB2.cell (World.block_lt_of_cell? _ _ hx1)).trans hx1
      replace hx2 := (hB2.cell (World.block_lt_of_cell? _ _ hx2)).trans hx2
      replace hx3 := (hB2.cell (World.block_lt_of_cell? _ _ hx3)).trans hx3
      replace hx4 := (hB2.cell (World.block_lt_of_cell? _ _ hx4)).trans hx4
      replace hx5 := (hB2.cell (World.block_lt_of_cell? _ _ hx5)).trans hx5
      have HR5 := Aside0.mk hr5
      have HQk := Aside0.mk (HQ.out _ (List.getElem_mem hlt))
      generalize hxk : l[k] = x at *
      have HXk := Aside0.mk hxk
      clear hxk
      go_wp2_with fail
      have hIx := hI2.alloc (.cells #[.int .i64 x.f0, .int .i64 x.f1, .int .i64 x.f2, .int .i64 x.f3, .int .i64 x.f4, .slice A5 x.f5.length c5] 40)
      have hrx := Kd.C_alloc (Kd.C_below hr5 hB2) (.cells #[.int .i64 x.f0, .int .i64 x.f1, .int .i64 x.f2, .int .i64 x.f3, .int .i64 x.f4, .slice A5 x.f5.length c5] 40)
      have hBx := below_alloc hB2 (.cells #[.int .i64 x.f0, .int .i64 x.f1, .int .i64 x.f2, .int .i64 x.f3, .int .i64 x.f4, .slice A5 x.f5.length c5] 40)
      have hbx := heap_alloc_new wr (.cells #[.int .i64 x.f0, .int .i64 x.f1, .int .i64 x.f2, .int .i64 x.f3, .int .i64 x.f4, .slice A5 x.f5.length c5] 40)
      clear hx0 hx1 hx2 hx3 hx4 hx5 hI2 hB2 hr5
      generalize wr.alloc (.cells #[.int .i64 x.f0, .int .i64 x.f1, .int .i64 x.f2, .int .i64 x.f3, .int .i64 x.f4, .slice A5 x.f5.length c5] 40) = W1 at *
      generalize wr.heap.size = bx at *
      have hcg : W1.drew.cell? ⟨g, 0, none⟩ = some (.int .i64 M) := by obtain ⟨b, hg, _⟩ := hIx; exact (blk_cell hg 0).trans rfl
      have b0 : W1.drew.cell? ⟨bx, 0, none⟩ = some (.int .i64 x.f0) := (blk_cell hbx 0).trans rfl
      have b1 : W1.drew.cell? ⟨bx, 1, none⟩ = some (.int .i64 x.f1) := (blk_cell hbx 1).trans rfl
      have b2 : W1.drew.cell? ⟨bx, 2, none⟩ = some (.int .i64 x.f2) := (blk_cell hbx 2).trans rfl
      have b3 : W1.drew.cell? ⟨bx, 3, none⟩ = some (.int .i64 x.f3) := (blk_cell hbx 3).trans rfl
      have b4 : W1.drew.cell? ⟨bx, 4, none⟩ = some (.int .i64 x.f4) := (blk_cell hbx 4).trans rfl
      have b5 : W1.drew.cell? ⟨bx, 5, none⟩ = some (.slice A5 x.f5.length c5) := (blk_cell hbx 5).trans rfl
      have HH := Aside0.mk hh
      have HB1 := Aside0.mk hBx
      have Hbx := Aside0.mk hbx
      have HI := Aside0.mk hIx
      have hIxd := hIx.drewN 1
      have hrxd := Kd.C_drew hrx
      clear hh hBx hbx hIx hrx
      have hfl := freshN_le D from_ x.f5
      have hf2 := HQk.out.2
      have hsum : IntKind.i64.wrap ((Maps.size D : Int) + (freshN D from_ x.f5 : Int)) = (Maps.size D : Int) + (freshN D from_ x.f5 : Int) := IntWalk.i64_in _ (by omega)
      go_region_held3 (fun w' => w'.cell? ⟨g, 0, none⟩ = some (.int .i64 M) ∧ w'.cell? ⟨bx, 0, none⟩ = some (.int .i64 x.f0) ∧ w'.cell? ⟨bx, 1, none⟩ = some (.int .i64 x.f1) ∧ w'.cell? ⟨bx, 2, none⟩ = some (.int .i64 x.f2) ∧ w'.cell? ⟨bx, 3, none⟩ = some (.int .i64 x.f3) ∧ w'.cell? ⟨bx, 4, none⟩ = some (.int .i64 x.f4) ∧ w'.cell? ⟨bx, 5, none⟩ = some (.slice A5 x.f5.length c5))
        (first | exact ⟨hcg, b0, b1, b2, b3, b4, b5⟩ | exact ⟨(hB3.cell (p := ⟨g, 0, none⟩) (World.block_lt_of_cell? _ _ hcg)).trans hcg, (hB3.cell (p := ⟨bx, 0, none⟩) (World.block_lt_of_cell? _ _ b0)).trans b0, (hB3.cell (p := ⟨bx, 1, none⟩) (World.block_lt_of_cell? _ _ b1)).trans b1, (hB3.cell (p := ⟨bx, 2, none⟩) (World.block_lt_of_cell? _ _ b2)).trans b2, (hB3.cell (p := ⟨bx, 3, none⟩) (World.block_lt_of_cell? _ _ b3)).trans b3, (hB3.cell (p := ⟨bx, 4, none⟩) (World.block_lt_of_cell? _ _ b4)).trans b4, (hB3.cell (p := ⟨bx, 5, none⟩) (World.block_lt_of_cell? _ _ b5)).trans b5⟩)
        (first
          | (go_at_call 20; refine (len_km (w0 := w) (g := g) hIxd).mono ?_; rintro e w' ⟨rfl, rfl⟩)
          | (go_at_call 50; refine (fresh_km (w0 := w) x A5 c5 from_ hIxd hl5 hrxd (fun r hr => (HQk.out.1 r hr).1) HQk.out.2).mono ?_; rintro e w2 ⟨rfl, hB3⟩))
      have hB3' := Aside0.mk hB3
      clear hB3 hcg b0 b1 b2 b3 b4 b5
      have HBX : Aside0 (w2.heap[bx]? = some (.cells #[.int .i64 x.f0, .int .i64 x.f1, .int .i64 x.f2, .int .i64 x.f3, .int .i64 x.f4, .slice A5 x.f5.length c5] 40)) := ⟨(hB3'.out.block bx (blk_lt Hbx.out)).trans Hbx.out⟩
      have HI2 : Aside0 (IsKM w w2 g M D) := ⟨hIxd.below hB3'.out⟩
      have HB2 : Aside0 (Below w.heap.size w w2) := ⟨(pw_below_drewN HB1.out 1).trans (hB3'.out.mono (pw_below_drewN HB1.out 1).size)⟩
      have HR2 := Aside0.mk (Kd.C_below hrxd hB3'.out)
      clear hB3' Hbx HI HB1 hIxd hrxd
      have b0 : w2.cell? ⟨bx, 0, none⟩ = some (.int .i64 x.f0) := (blk_cell HBX.out 0).trans rfl
      have b1 : w2.cell? ⟨bx, 1, none⟩ = some (.int .i64 x.f1) := (blk_cell HBX.out 1).trans rfl
      have b5 : w2.cell? ⟨bx, 5, none⟩ = some (.slice A5 x.f5.length c5) := (blk_cell HBX.out 5).trans rfl
      by_cases hroom : M < (Maps.size D : Int) + (freshN D from_ x.f5 : Int)
      · obtain ⟨u', hu'⟩ : ∃ u', u' = max x.f0 from_ := ⟨_, rfl⟩
        have hmax : (if x.f0 < from_ then from_ else x.f0) = u' := by split <;> omega
        have HP : Built from_ M l D u' := ⟨k, hk, HH.out, hs, .inr ⟨hlt, by rw [HXk.out]; exact fresh_ne (D := D) (from_ := from_) (by omega), by rw [HXk.out]; exact hu'⟩⟩
        have HP' := Aside0.mk HP
        clear HP hu'
        go_wp2_with fail
        rw [Exit.noGoto_ret]
        go_ret2
        exact ⟨g, D, _, rfl, HI2.out, HP'.out, HB2.out⟩
      · clear hsum hfl
        have HRm : Aside0 ((Maps.size D : Int) + (freshN D from_ x.f5 : Int) ≤ M) := ⟨by omega⟩
        go_wp2_with fail
        clear hroom
        go_loopw [48] (fun i wr => InRelB w M g bx (.cells #[.int .i64 x.f0, .int .i64 x.f1, .int .i64 x.f2, .int .i64 x.f3, .int .i64 x.f4, .slice A5 x.f5.length c5] 40) ((flat (l.take k)).filter (offd from_)) x.f5 from_ i wr) (fun i _ => x.f5.length - (intOf i).toNat)
        case atStart => exact ⟨0, D, rfl, Nat.zero_le _, HI2.out, by simpa using HH.out, hs, HB2.out, HBX.out⟩
        case round =>
          obtain ⟨j, Dj, rfl, hj, hIj, hHj, hsj, hBj, hbj⟩ := hrel
          by_cases hlt2 : j < x.f5.length
          · obtain ⟨ad2, A3, c3, A6, c6, e2, hy0, hy1, hy2, hy3, hy4, hy5, hl3, hr3, hl6, hr6⟩ := at_T42 (Kd.C_below HR5.out hBj) (j : Int) (by omega) (by omega)
            subst e2
            simp only [Int.toNat_natCast] at hy0 hy1 hy2 hy3 hy4 hy5
            rw [rdr _ _ hlt2] at hy0 hy1 hy2 hy3 hy4 hy5 hl3 hr3 hl6 hr6
            have HQr := Aside0.mk (HQk.out.1 _ (List.getElem_mem hlt2))
            have HT := Aside0.mk (take_filter (offd from_) x.f5 j hlt2)
            have HN := Aside0.mk (fun ho => room_next (most := M) HH.out (fun r hr => (HQk.out.1 r hr).1) HRm.out hlt2 hHj ho)
            generalize x.f5[j] = r at *
            have HHj := Aside0.mk hHj
            have HIj := Aside0.mk hIj
            have HBj := Aside0.mk hBj
            have Hbj := Aside0.mk hbj
            clear hHj hIj hBj hbj b0 b1 b5 hl5 hl3 hl6 hr6
            cases hk1 : r.f2
            · rw [hk1] at hy2
              have ho : offd from_ r = false := by unfold offd; rw [hk1]; rfl
              have HT2 : Aside0 ((x.f5.take (j + 1)).filter (offd from_) = (x.f5.take j).filter (offd from_)) := ⟨by rw [HT.out, ho]; simp⟩
              clear ho HT HN
              go_wp2_with fail
              go_roundw
              case rel => exact ⟨j + 1, Dj, rfl, hlt2, HIj.out.alloc _, by rw [HT2.out]; exact HHj.out, hsj, below_alloc HBj.out _, blk_alloc Hbj.out _⟩
              case measure => exact meas _ _ hlt2
            · rw [hk1] at hy2
              by_cases hge : from_ ≤ r.f0
              · have ho : offd from_ r = true := by unfold offd; rw [hk1]; simp [hge]
                obtain ⟨D', hoff, hH'⟩ := holds_snoc (most := M) HHj.out HQr.out.1 (HN.out ho)
                have hs' : (Maps.size D' : Int) ≤ M := by
                  have h1 := hH'.2.1
                  rw [List.append_assoc] at h1
                  have h2 : (keysOf ((flat (l.take k)).filter (offd from_) ++ ((x.f5.take j).filter (offd from_) ++ [r]))).length ≤ (keysOf ((flat (l.take k)).filter (offd from_) ++ x.f5.filter (offd from_))).length := by
                    have e : x.f5.filter (offd from_) = ((x.f5.take j).filter (offd from_) ++ [r]) ++ (x.f5.drop (j + 1)).filter (offd from_) := by
                      have h3 : ((x.f5.take (j + 1)).filter (offd from_)) = (x.f5.take j).filter (offd from_) ++ [r] := by rw [HT.out, ho]; rfl
                      rw [← h3, ← List.filter_append, List.take_append_drop]
                    rw [e]
                    have h6 := keysOf_le ((flat (l.take k)).filter (offd from_) ++ ((x.f5.take j).filter (offd from_) ++ [r])) ((x.f5.drop (j + 1)).filter (offd from_))
                    rwa [List.append_assoc] at h6
                  have h4 := keys_fresh HH.out from_ x.f5 (fun r hr => (HQk.out.1 r hr).1)
                  have h5 := HRm.out
                  omega
                have HT2 : Aside0 ((x.f5.take (j + 1)).filter (offd from_) = (x.f5.take j).filter (offd from_) ++ [r]) := ⟨by rw [HT.out, ho]; rfl⟩
                have HO := Aside0.mk hoff
                have HH2 := Aside0.mk hH'
                have hszj : Maps.size Dj < 1000000000 := by omega
                clear ho HT HN hoff hH'
                go_wp2_with fail
                refine (offer_to (w0 := w) HO.out (HIj.out.alloc _) hszj HQr.out.2 (below_alloc HBj.out _) (Kd.C_alloc hr3 _)).mono ?_
                rintro e w3 ⟨rfl, hI3, hB3, hbes⟩
                go_wp2_with fail
                go_roundw
                case rel => exact ⟨j + 1, D', rfl, hlt2, hI3, by rw [HT2.out, ← List.append_assoc]; exact HH2.out, hs', hB3, hbes.2 _ _ _ _ (blk_alloc Hbj.out _)⟩
                case measure => exact meas _ _ hlt2
              · have ho : offd from_ r = false := by unfold offd; rw [hk1]; simp [hge]
                have HT2 : Aside0 ((x.f5.take (j + 1)).filter (offd from_) = (x.f5.take j).filter (offd from_)) := ⟨by rw [HT.out, ho]; simp⟩
                clear ho HT HN
                go_wp2_with fail
                go_roundw
                case rel => exact ⟨j + 1, Dj, rfl, hlt2, HIj.out.alloc _, by rw [HT2.out]; exact HHj.out, hsj, below_alloc HBj.out _, blk_alloc Hbj.out _⟩
                case measure => exact meas _ _ hlt2
          · have b1 : wr.cell? ⟨bx, 1, none⟩ = some (.int .i64 x.f1) := (blk_cell hbj 1).trans rfl
            have hH2 : Holds Dj ((flat (l.take (k + 1))).filter (offd from_)) := by
              rw [List.take_succ_eq_append_getElem hlt, flat_snoc, List.filter_append, HXk.out]
              have ej : x.f5.take j = x.f5 := List.take_of_length_le (by omega)
              rw [ej] at hHj
              exact hHj
            have hup : upto from_ (l.take (k + 1)) = max (wrap64 (x.f1 + 1)) from_ := by rw [List.take_succ_eq_append_getElem hlt, upto_snoc, HXk.out]
            obtain ⟨u', hu'⟩ : ∃ u', u' = upto from_ (l.take (k + 1)) := ⟨_, rfl⟩
            have hmax : (if wrap64 (x.f1 + 1) < from_ then from_ else wrap64 (x.f1 + 1)) = u' := by rw [hu', hup]; split <;> omega
            have HU := Aside0.mk hu'
            have HH2 := Aside0.mk hH2
            clear hup hu' hH2 hHj b0 b5 hl5
            go_wp2_with fail
            go_roundw
            case rel => exact ⟨k + 1, Dj, rfl, by rw [HU.out], hlt, hIj, HH2.out, hsj, hBj⟩
            case measure => exact meas _ _ hlt
    · have hke : k = l.length := by omega
      have HP : Built from_ M l D (upto from_ (l.take k)) := ⟨k, hk, hh, hs, .inl ⟨hke, by rw [hke, List.take_length]⟩⟩
      have HP' := Aside0.mk HP
      clear hke HP hh hs
      go_wp2_with fail
      go_ret2
      exact ⟨g, D, _, rfl, hI2, HP'.out, hB2⟩
end Go.Proofs.Ytpibjdkenifggaa.KM
