-- printed by a program of the session's own (hprint.py); not trusted: Lean checks it
import Derived.Test.YtecnfekcflfihaaProg
import Derived.Test.YtecnfekcflfihaaHB
namespace Go.Proofs.Ytecnfekcflfihaa.C2
open Go.Proofs.Ytecnfekcflfihaa.H
set_option linter.unusedVariables false
set_option maxRecDepth 100000

/-- cordwain/cordwainref1.Fixed -/
def c77 (a0 a1 : HV) (s : HS) (Q : HV → HS → Prop) : Prop :=
  hMake s 1 1 (.int .u8 0) a1 a1 (fun x1 s2 => HLoop (fun y4 s5 K3 => bindO (vBin .lss (y4.headD .junk) a1) fun x6 => hcond x6 (bindO (vBin .sub a1 (.lit (.int .i64 1))) fun x7 => bindO (vBin .sub x7 (y4.headD .junk)) fun x8 => bindO (vToInt .u64 a0) fun x9 => bindO (vBin .mul (.lit (.int .i64 8)) (y4.headD .junk)) fun x10 => bindO (vBin .shr x9 x10) fun x11 => bindO (vToInt .u8 x11) fun x12 => bindO (vIdx 1 x1 x8) fun x13 => hStore s5 x13 x12 1 (fun s14 => bindO (vBin .add (y4.headD .junk) (.lit (.int .i64 1))) fun x15 => K3 [x15] s14)) (Q x1 s5)) [(.lit (.int .i64 0))] s2)
theorem c77_eq (a0 a1 : HV) (s : HS) (Q : HV → HS → Prop) : (match Try.f77.body with | some c => hwp Try.prog (fun p => if p = 58 then some [6] else none) 1 c (hretQ Try.prog Try.f77.results.toList Q) (([a0, a1] : List HV) ++ List.replicate (Try.f77.ntmps - 2) (.lit undef)) s | none => False) = c77 a0 a1 s Q := by kernel_rfl
theorem HC77 {a0 a1 : HV} {s : HS} {Q : HV → HS → Prop} (h : c77 a0 a1 s Q) : HC Try.prog 77 [a0, a1] s Q := HC_by Try.func77 (by have := c77_eq a0 a1 s Q; exact this.mpr h)
/-- cordwain/cordwainref1.Zig -/
def c97 (a0 : HV) (s : HS) (Q : HV → HS → Prop) : Prop :=
  bindO (vBin .lss a0 (.lit (.int .i64 0))) fun x1 => hcond x1 (bindO (vBin .add a0 (.lit (.int .i64 1))) fun x2 => bindO (vUn .neg x2) fun x3 => bindO (vToInt .u64 x3) fun x4 => bindO (vBin .mul (.lit (.int .u64 2)) x4) fun x5 => bindO (vBin .add x5 (.lit (.int .u64 1))) fun x6 => Q x6 s) (bindO (vToInt .u64 a0) fun x7 => bindO (vBin .mul (.lit (.int .u64 2)) x7) fun x8 => Q x8 s)
theorem c97_eq (a0 : HV) (s : HS) (Q : HV → HS → Prop) : (match Try.f97.body with | some c => hwp Try.prog (fun p => none) 1 c (hretQ Try.prog Try.f97.results.toList Q) (([a0] : List HV) ++ List.replicate (Try.f97.ntmps - 1) (.lit undef)) s | none => False) = c97 a0 s Q := by kernel_rfl
theorem HC97 {a0 : HV} {s : HS} {Q : HV → HS → Prop} (h : c97 a0 s Q) : HC Try.prog 97 [a0] s Q := HC_by Try.func97 (by have := c97_eq a0 s Q; exact this.mpr h)
/-- cordwain/cordwainref1.Put -/
def c84 (a0 : HV) (s : HS) (Q : HV → HS → Prop) : Prop :=
  HC Try.prog 97 [a0] s (fun r1 s2 => HLoop (fun y4 s5 K3 => bindO (vBin .geq (y4.headD .junk) (.lit (.int .u64 128))) fun x6 => hcond x6 (bindO (vToInt .u8 (y4.headD .junk)) fun x7 => bindO (vBin .or x7 (.lit (.int .u8 128))) fun x8 => hBS s5 1 1 [.lit (.int .u8 0)] [(0, x8)] (fun x9 s10 => hAppend s10 1 1 (y4.tail.headD .junk) x9 (fun x11 s12 => bindO (vBin .shr (y4.headD .junk) (.lit (.int .u64 7))) fun x13 => K3 [x13, x11] s12))) (bindO (vToInt .u8 (y4.headD .junk)) fun x14 => hBS s5 1 1 [.lit (.int .u8 0)] [(0, x14)] (fun x15 s16 => hAppend s16 1 1 (y4.tail.headD .junk) x15 (fun x17 s18 => Q x17 s18)))) [r1, (.lit (.slice none 0 0))] s2)
theorem c84_eq (a0 : HV) (s : HS) (Q : HV → HS → Prop) : (match Try.f84.body with | some c => hwp Try.prog (fun p => if p = 60 then some [3, 4] else none) 1 c (hretQ Try.prog Try.f84.results.toList Q) (([a0] : List HV) ++ List.replicate (Try.f84.ntmps - 1) (.lit undef)) s | none => False) = c84 a0 s Q := by kernel_rfl
theorem HC84 {a0 : HV} {s : HS} {Q : HV → HS → Prop} (h : c84 a0 s Q) : HC Try.prog 84 [a0] s Q := HC_by Try.func84 (by have := c84_eq a0 s Q; exact this.mpr h)
/-- cordwain/cordwainref1.Bytes -/
def c78 (a0 : HV) (s : HS) (Q : HV → HS → Prop) : Prop :=
  bindO (vLenT (Try.prog.underlying 32) s a0) fun x1 => HC Try.prog 84 [x1] s (fun r2 s3 => hAppend s3 1 1 r2 a0 (fun x4 s5 => Q x4 s5))
theorem c78_eq (a0 : HV) (s : HS) (Q : HV → HS → Prop) : (match Try.f78.body with | some c => hwp Try.prog (fun p => none) 1 c (hretQ Try.prog Try.f78.results.toList Q) (([a0] : List HV) ++ List.replicate (Try.f78.ntmps - 1) (.lit undef)) s | none => False) = c78 a0 s Q := by kernel_rfl
theorem HC78 {a0 : HV} {s : HS} {Q : HV → HS → Prop} (h : c78 a0 s Q) : HC Try.prog 78 [a0] s Q := HC_by Try.func78 (by have := c78_eq a0 s Q; exact this.mpr h)
/-- cordwain/cordwainref1.body -/
def c79 (a0 a1 a2 : HV) (s : HS) (Q : HV → HS → Prop) : Prop :=
  hBox s a0 (fun x1 s2 => bindO (vField 1 x1) fun x3 => bindO (vLoad s2 x3 1 false) fun x4 => bindO (vBin .sub x4 a1) fun x5 => bindO (vField 0 x1) fun x6 => bindO (vLoad s2 x6 1 false) fun x7 => bindO (vBin .sub x7 a2) fun x8 => HC Try.prog 84 [x5] s2 (fun r9 s10 => (vLoad s10 x6 1 false = vLoad s2 x6 1 false ∧ HC Try.prog 84 [x8] s10 (fun r11 s12 => hAppend s12 1 1 r9 r11 (fun x13 s14 => Join (fun K15 => bindO (vField 2 x1) fun x18 => bindO (vLoad s14 x18 1 false) fun x19 => hcond x19 (bindO (vField 3 x1) fun x20 => bindO (vLoad s14 x20 1 false) fun x21 => HC Try.prog 78 [x21] s14 (fun r22 s23 => hAppend s23 1 1 x13 r22 (fun x24 s25 => K15 [x24] s25))) (HC Try.prog 84 [(.lit (.int .i64 (-1)))] s14 (fun r26 s27 => hAppend s27 1 1 x13 r26 (fun x28 s29 => K15 [x28] s29)))) (fun y16 s17 => bindO (vField 4 x1) fun x30 => bindO (vLoad s17 x30 1 false) fun x31 => hcond x31 (bindO (vField 5 x1) fun x32 => bindO (vLoad s17 x32 1 false) fun x33 => HC Try.prog 78 [x33] s17 (fun r34 s35 => hAppend s35 1 1 (y16.headD .junk) r34 (fun x36 s37 => Q x36 s37))) (HC Try.prog 84 [(.lit (.int .i64 (-1)))] s17 (fun r38 s39 => hAppend s39 1 1 (y16.headD .junk) r38 (fun x40 s41 => Q x40 s41)))))))))
theorem c79_eq (a0 a1 a2 : HV) (s : HS) (Q : HV → HS → Prop) : (match Try.f79.body with | some c => hwp Try.prog (fun p => if p = 7 then some [7] else none) 1 c (hretQ Try.prog Try.f79.results.toList Q) (([a0, a1, a2] : List HV) ++ List.replicate (Try.f79.ntmps - 3) (.lit undef)) s | none => False) = c79 a0 a1 a2 s Q := by kernel_rfl
theorem HC79 {a0 a1 a2 : HV} {s : HS} {Q : HV → HS → Prop} (h : c79 a0 a1 a2 s Q) : HC Try.prog 79 [a0, a1, a2] s Q := HC_by Try.func79 (by have := c79_eq a0 a1 a2 s Q; exact this.mpr h)
/-- cordwain/cordwainref1.More -/
def c85 (a0 a1 : HV) (s : HS) (Q : HV → HS → Prop) : Prop :=
  HLoop (fun y2 s3 K1 => bindO (vLenT (Try.prog.underlying 32) s3 a1) fun x4 => bindO (vBin .lss (y2.tail.headD .junk) x4) fun x5 => hcond x5 (bindO (vIdx 1 a1 (y2.tail.headD .junk)) fun x6 => bindO (vLoad s3 x6 1 false) fun x7 => bindO (vToInt .u32 x7) fun x8 => bindO (vBin .xor (y2.headD .junk) x8) fun x9 => HLoop (fun y11 s12 K10 => bindO (vBin .lss (y11.tail.headD .junk) (.lit (.int .i64 8))) fun x13 => hcond x13 (Join (fun K14 => bindO (vBin .and (y11.headD .junk) (.lit (.int .u32 1))) fun x17 => bindO (vCmp (Try.prog.underlying 123) .eql x17 (.lit (.int .u32 1))) fun x18 => hcond x18 (bindO (vBin .shr (y11.headD .junk) (.lit (.int .u64 1))) fun x19 => bindO (vBin .xor x19 (.lit (.int .u32 2197175160))) fun x20 => K14 [x20] s12) (bindO (vBin .shr (y11.headD .junk) (.lit (.int .u64 1))) fun x21 => K14 [x21] s12)) (fun y15 s16 => bindO (vBin .add (y11.tail.headD .junk) (.lit (.int .i64 1))) fun x22 => K10 [(y15.headD .junk), x22] s16)) (bindO (vBin .add (y2.tail.headD .junk) (.lit (.int .i64 1))) fun x23 => K1 [(y11.headD .junk), x23] s12)) [x9, (.lit (.int .i64 0))] s3) (Q (y2.headD .junk) s3)) [a0, (.lit (.int .i64 0))] s
theorem c85_eq (a0 a1 : HV) (s : HS) (Q : HV → HS → Prop) : (match Try.f85.body with | some c => hwp Try.prog (fun p => if p = 26 then some [0, 5] else if p = 3366 then some [0, 6] else if p = 13465 then some [0] else none) 1 c (hretQ Try.prog Try.f85.results.toList Q) (([a0, a1] : List HV) ++ List.replicate (Try.f85.ntmps - 2) (.lit undef)) s | none => False) = c85 a0 a1 s Q := by kernel_rfl
theorem HC85 {a0 a1 : HV} {s : HS} {Q : HV → HS → Prop} (h : c85 a0 a1 s Q) : HC Try.prog 85 [a0, a1] s Q := HC_by Try.func85 (by have := c85_eq a0 a1 s Q; exact this.mpr h)
/-- cordwain/cordwainref1.Sum -/
def c80 (a0 : HV) (s : HS) (Q : HV → HS → Prop) : Prop :=
  HC Try.prog 85 [(.lit (.int .u32 4294967295)), a0] s (fun r1 s2 => bindO (vUn .xor r1) fun x3 => Q x3 s2)
theorem c80_eq (a0 : HV) (s : HS) (Q : HV → HS → Prop) : (match Try.f80.body with | some c => hwp Try.prog (fun p => none) 1 c (hretQ Try.prog Try.f80.results.toList Q) (([a0] : List HV) ++ List.replicate (Try.f80.ntmps - 1) (.lit undef)) s | none => False) = c80 a0 s Q := by kernel_rfl
theorem HC80 {a0 : HV} {s : HS} {Q : HV → HS → Prop} (h : c80 a0 s Q) : HC Try.prog 80 [a0] s Q := HC_by Try.func80 (by have := c80_eq a0 s Q; exact this.mpr h)

end Go.Proofs.Ytecnfekcflfihaa.C2
