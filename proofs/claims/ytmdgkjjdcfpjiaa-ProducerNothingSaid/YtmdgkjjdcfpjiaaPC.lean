/- A row of batches, copied. -/
import Derived.Test.YtmdgkjjdcfpjiaaPT
import Derived.Lib.SliceRun
import Derived.WalkSpells
namespace Go.Proofs.Ytmdgkjjdcfpjiaa.PT
open Go.RowKit Go.Maps Go.MapKept Go.ChangeMaps Go.WideElems Go.WideMaps Go.WideShapes Go.Proofs.YtmdgkjjdcfpjiaaW.PrintWords Go.Proofs.YtmdgkjjdcfpjiaaW.PrintLast Go.Proofs.YtmdgkjjdcfpjiaaW.PrintMore Go.Proofs.Ytmdgkjjdcfpjiaa.PProducerOnce
set_option linter.unusedVariables false
set_option linter.unusedSimpArgs false
set_option maxRecDepth 100000

def zero97 : Value := .agg #[.int .i64 0, .int .i64 0, .int .i64 0]
theorem info97 : (Try.prog.info? 97).map (fun i => (i.zero, i.size, i.bytes)) = some (some zero97, k97.sz, 24) := by kernel_rfl
theorem nil_of {w : World} {n : Nat} {l : List S97} (h : Kd.C k97 w none n l) : l = [] := by
  rcases Nat.eq_zero_or_pos n with h0 | h0
  · subst h0
    exact List.eq_nil_of_length_eq_zero h.1
  · obtain ⟨ad, h1, _⟩ := h.2.2 h0
    cases h1
/-- A row's own copy. -/
theorem clone_calls {w : World} {A : Option Addr} {c : Nat} {l : List S97} (hr : Kd.C k97 w A l.length l) (h5 : l.length ≤ 5) :
    Calls Try.prog 37 #[.slice A l.length c] w fun e w' => ∃ A' c', e = .returned (.slice A' l.length c') ∧ k97.R 97 w' w.heap.size (fun _ => True) (.slice A' l.length c') l ∧ Below w.heap.size w w' := by
  rcases A with _ | ad
  · obtain rfl := nil_of hr
    clear hr
    have hn := fun (w : World) (a : Option Addr) (n c : Nat) => Lib.run_eql_slice_nil (P := Try.prog) w 91 97 a n c 0 0 Try.underlying91
    go_enter Try.func37, Try.ntmps37
    go_wp2_with fail
    go_ret
    exact ⟨none, 0, rfl, Kd.R_nil _ _ _ _ _, Below.refl _ _⟩
  · have HR := Aside0.mk hr
    clear hr
    have hn := fun (w : World) (a : Option Addr) (n c : Nat) => Lib.run_eql_slice_nil (P := Try.prog) w 91 97 a n c 0 0 Try.underlying91
    go_enter Try.func37, Try.ntmps37
    have HL : Aside0 (k97.R 97 (w.alloc (.cells #[] 97)) w.heap.size (fun _ => True) (.slice (some ⟨w.heap.size, 0, none⟩) 0 0) ([] : List S97)) := ⟨⟨fun _ _ => trivial, OwnRow.lit w w.heap.size (R := k97.M (w.alloc (.cells #[] 97)) w.heap.size _) (ps := []) (inner := []) ⟨rfl, fun j p hj => by simp at hj⟩ (Nat.le_refl _) (by simp)⟩⟩
    go_wp2_with ((with_reducible refine gate_builtin (b := .append) (xs := #[.tmp 5, .tmp 6]) rfl ?_); at_builtin; refine Kd.R_append_rows k97 (w0 := w) w.heap.size rfl (.tmp 5) (.tmp 6) 91 97 zero97 24 rfl Try.underlying91 info97 rfl (by decide) (by omega) (.slice (some ⟨w.heap.size, 0, none⟩) 0 0) [] l (some ad) l.length c (fun _ => True) (fun _ => False) rfl rfl HL.out (Kd.C_alloc HR.out _) ?aK (fun _ h => h.elim) (fun _ _ => trivial) (by (repeat (first | exact Below.refl _ _ | assumption | refine below_drew ?_ | refine below_alloc ?_ _ | refine pw_below_drewN ?_ _))) ?aS ?aL ?_)
    case aK => exact fun x cs h => by obtain rfl := k97_open h; exact k97_mkM _ _ _ _
    case aS => exact (below_alloc (Below.refl _ _) _).size
    case aL => simp only [List.length_nil]; omega
    intro v1 w1 hR hB hg hat
    obtain ⟨A', c', rfl⟩ := Kd.R_slice hR
    go_wp2_with fail
    go_ret
    exact ⟨A', c', rfl, hR, hB⟩
end Go.Proofs.Ytmdgkjjdcfpjiaa.PT
