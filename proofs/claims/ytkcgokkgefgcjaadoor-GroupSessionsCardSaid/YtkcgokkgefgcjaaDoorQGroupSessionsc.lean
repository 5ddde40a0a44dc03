/- What the proof of the law GroupSessions needs, cut out of the session's own texts by a program (slim.py): part 3. -/
import Derived.Test.YtkcgokkgefgcjaaDoorQGroupSessionsb
section
namespace Go.Proofs.YtkcgokkgefgcjaaDoor.G0
open Go.Proofs.YtkcgokkgefgcjaaDoor.H
set_option linter.unusedVariables false
set_option maxRecDepth 100000
/-- cordwain/group.New -/
def c9 (a0 a1 a2 a3 : HV) (s : HS) (Q : HV → HS → Prop) : Prop :=
  Join (fun K1 => bindO (vBin .lss a0 (.lit (.int .i64 1))) fun x4 => hcond x4 (K1 [(.lit (.bool true))] s) (bindO (vBin .gtr a0 (.lit (.int .i64 1000000))) fun x5 => hcond x5 (K1 [(.lit (.bool true))] s) (bindO (vBin .lss a1 (.lit (.int .i64 1))) fun x6 => hcond x6 (K1 [(.lit (.bool true))] s) (bindO (vBin .gtr a1 (.lit (.int .i64 1000000))) fun x7 => hcond x7 (K1 [(.lit (.bool true))] s) (bindO (vBin .lss a2 (.lit (.int .i64 0))) fun x8 => hcond x8 (K1 [(.lit (.bool true))] s) (bindO (vBin .gtr a2 (.lit (.int .i64 1099511627776))) fun x9 => K1 [x9] s)))))) (fun y2 s3 => hcond (y2.headD .junk) (Q (.tup [(.lit (.pointer none)), (.lit (.int .i64 1))]) s3) (bindO (vMk [(0, 1), (1, 1), (2, 1), (3, 1), (4, 1), (5, 1), (6, 1), (7, 1), (8, 1), (9, 1), (10, 1)] [.lit (.int .i64 0), .lit (.int .i64 0), .lit (.bool false), .lit (.int .i64 0), .lit (.int .i64 0), .lit (.int .i64 0), .lit (.int .i64 0), .lit (.int .i64 0), .lit (.slice none 0 0), .lit (.slice none 0 0), .lit (.slice none 0 0)] [(0, a0), (1, a1), (2, a3), (3, (.lit (.int .i64 1))), (4, a2)]) fun x10 => hBox s3 x10 (fun x11 s12 => Q (.tup [x11, (.lit (.int .i64 0))]) s12)))
theorem c9_eq (a0 a1 a2 a3 : HV) (s : HS) (Q : HV → HS → Prop) : (match Tryd.f9.body with | some c => hwp Tryd.prog (fun p => if p = 6 then some [31] else none) false 1 c (hretQ Tryd.prog Tryd.f9.results.toList Q) (([a0, a1, a2, a3] : List HV) ++ List.replicate (Tryd.f9.ntmps - 4) (.lit undef)) s | none => False) = c9 a0 a1 a2 a3 s Q := by kernel_rfl
theorem HC9 {a0 a1 a2 a3 : HV} {s : HS} {Q : HV → HS → Prop} (h : c9 a0 a1 a2 a3 s Q) : HC Tryd.prog 9 [a0, a1, a2, a3] s Q := HC_by Tryd.func9 (by have := c9_eq a0 a1 a2 a3 s Q; exact this.mpr h)
/-- slices.Clone[[]cordwain/assign.Topic,cordwain/assign.Topic] -/
def c38 (a0 : HV) (s : HS) (Q : HV → HS → Prop) : Prop :=
  bindO (vCmp (Tryd.prog.underlying 29) .eql a0 (.lit (.slice none 0 0))) fun x1 => hcond x1 (Q (.lit (.slice none 0 0)) s) (hBS s 2 0 [] [] (fun x2 s3 => hAppend s3 2 24 x2 a0 (fun x4 s5 => Q x4 s5)))
theorem c38_eq (a0 : HV) (s : HS) (Q : HV → HS → Prop) : (match Tryd.f38.body with | some c => hwp Tryd.prog (fun p => none) false 1 c (hretQ Tryd.prog Tryd.f38.results.toList Q) (([a0] : List HV) ++ List.replicate (Tryd.f38.ntmps - 1) (.lit undef)) s | none => False) = c38 a0 s Q := by kernel_rfl
theorem HC38 {a0 : HV} {s : HS} {Q : HV → HS → Prop} (h : c38 a0 s Q) : HC Tryd.prog 38 [a0] s Q := HC_by Tryd.func38 (by have := c38_eq a0 s Q; exact this.mpr h)
/-- (*cordwain/group.Group).enter -/
def c36 (a0 a1 : HV) (s : HS) (Q : HV → HS → Prop) : Prop :=
  bindO (vNil a0) fun x1 => bindO (vField 6 x1) fun x2 => bindO (vLoad s x2 1 false) fun x3 => bindO (vNil a0) fun x4 => bindO (vField 3 x4) fun x5 => hStore s x5 a1 1 (fun s6 => bindO (vNil a0) fun x7 => bindO (vField 7 x7) fun x8 => hStore s6 x8 x3 1 (fun s9 => Q (.tup []) s9))
theorem c36_eq (a0 a1 : HV) (s : HS) (Q : HV → HS → Prop) : (match Tryd.f36.body with | some c => hwp Tryd.prog (fun p => none) false 1 c (hretQ Tryd.prog Tryd.f36.results.toList Q) (([a0, a1] : List HV) ++ List.replicate (Tryd.f36.ntmps - 2) (.lit undef)) s | none => False) = c36 a0 a1 s Q := by kernel_rfl
theorem HC36 {a0 a1 : HV} {s : HS} {Q : HV → HS → Prop} (h : c36 a0 a1 s Q) : HC Tryd.prog 36 [a0, a1] s Q := HC_by Tryd.func36 (by have := c36_eq a0 a1 s Q; exact this.mpr h)
/-- (*cordwain/group.Group).prepares -/
def c31 (a0 : HV) (s : HS) (Q : HV → HS → Prop) : Prop :=
  bindO (vNil a0) fun x1 => bindO (vField 9 x1) fun x2 => bindO (vLoad s x2 1 false) fun x3 => bindO (vLenT (Tryd.prog.underlying 66) s x3) fun x4 => bindO (vCmp (Tryd.prog.underlying 3) .eql x4 (.lit (.int .i64 0))) fun x5 => hcond x5 (HC Tryd.prog 36 [a0, (.lit (.int .i64 1))] s (fun r6 s7 => Q (.tup []) s7)) (HC Tryd.prog 36 [a0, (.lit (.int .i64 2))] s (fun r8 s9 => bindO (vNil a0) fun x10 => bindO (vField 9 x10) fun x11 => bindO (vLoad s9 x11 1 false) fun x12 => bindO (vLenT (Tryd.prog.underlying 66) s9 x12) fun x13 => HLoop (fun y15 s16 K14 => bindO (vBin .lss (y15.headD .junk) x13) fun x17 => hcond x17 (bindO (vIdx 1 x12 (y15.headD .junk)) fun x18 => bindO (vLoad s16 x18 1 false) fun x19 => bindO (vNil x19) fun x20 => bindO (vField 3 x20) fun x21 => hStore s16 x21 (.lit (.bool false)) 1 (fun s22 => bindO (vBin .add (y15.headD .junk) (.lit (.int .i64 1))) fun x23 => K14 [x23] s22)) (Q (.tup []) s16)) [(.lit (.int .i64 0))] s9))
theorem c31_eq (a0 : HV) (s : HS) (Q : HV → HS → Prop) : (match Tryd.f31.body with | some c => hwp Tryd.prog (fun p => if p = 30 then some [19] else none) false 1 c (hretQ Tryd.prog Tryd.f31.results.toList Q) (([a0] : List HV) ++ List.replicate (Tryd.f31.ntmps - 1) (.lit undef)) s | none => False) = c31 a0 s Q := by kernel_rfl
theorem HC31 {a0 : HV} {s : HS} {Q : HV → HS → Prop} (h : c31 a0 s Q) : HC Tryd.prog 31 [a0] s Q := HC_by Tryd.func31 (by have := c31_eq a0 s Q; exact this.mpr h)
/-- slices.IndexFunc[[]*cordwain/group.member,*cordwain/group.member] -/
def c46 (a0 a1 : HV) (s : HS) (Q : HV → HS → Prop) : Prop :=
  bindO (vLenT (Tryd.prog.underlying 66) s a0) fun x1 => HLoop (fun y3 s4 K2 => bindO (vBin .lss (y3.headD .junk) x1) fun x5 => hcond x5 (bindO (vIdx 1 a0 (y3.headD .junk)) fun x6 => bindO (vLoad s4 x6 1 false) fun x7 => hcall Tryd.prog a1 [x7] s4 (fun r8 s9 => hcond r8 (Q (y3.headD .junk) s9) (bindO (vBin .add (y3.headD .junk) (.lit (.int .i64 1))) fun x10 => K2 [x10] s9))) (Q (.lit (.int .i64 (-1))) s4)) [(.lit (.int .i64 0))] s
theorem c46_eq (a0 a1 : HV) (s : HS) (Q : HV → HS → Prop) : (match Tryd.f46.body with | some c => hwp Tryd.prog (fun p => if p = 26 then some [8] else none) false 1 c (hretQ Tryd.prog Tryd.f46.results.toList Q) (([a0, a1] : List HV) ++ List.replicate (Tryd.f46.ntmps - 2) (.lit undef)) s | none => False) = c46 a0 a1 s Q := by kernel_rfl
theorem HC46 {a0 a1 : HV} {s : HS} {Q : HV → HS → Prop} (h : c46 a0 a1 s Q) : HC Tryd.prog 46 [a0, a1] s Q := HC_by Tryd.func46 (by have := c46_eq a0 a1 s Q; exact this.mpr h)
/-- (*cordwain/group.Group).find$1 -/
def c47 (a0 a1 : HV) (s : HS) (Q : HV → HS → Prop) : Prop :=
  bindO (vNil a0) fun x1 => bindO (vField 0 x1) fun x2 => bindO (vLoad s x2 1 false) fun x3 => bindO (vLoad s a1 1 false) fun x4 => bindO (vCmp (Tryd.prog.underlying 9) .eql x3 x4) fun x5 => Q x5 s
theorem c47_eq (a0 a1 : HV) (s : HS) (Q : HV → HS → Prop) : (match Tryd.f47.body with | some c => hwp Tryd.prog (fun p => none) false 1 c (hretQ Tryd.prog Tryd.f47.results.toList Q) (([a0, a1] : List HV) ++ List.replicate (Tryd.f47.ntmps - 2) (.lit undef)) s | none => False) = c47 a0 a1 s Q := by kernel_rfl
theorem HC47 {a0 a1 : HV} {s : HS} {Q : HV → HS → Prop} (h : c47 a0 a1 s Q) : HC Tryd.prog 47 [a0, a1] s Q := HC_by Tryd.func47 (by have := c47_eq a0 a1 s Q; exact this.mpr h)
/-- (*cordwain/group.Group).find -/
def c27 (a0 a1 : HV) (s : HS) (Q : HV → HS → Prop) : Prop :=
  hBox s a1 (fun x1 s2 => bindO (vNil a0) fun x3 => bindO (vField 9 x3) fun x4 => bindO (vLoad s2 x4 1 false) fun x5 => HC Tryd.prog 46 [x5, (.func (.func 47) [x1])] s2 (fun r6 s7 => bindO (vBin .lss r6 (.lit (.int .i64 0))) fun x8 => hcond x8 (Q (.lit (.pointer none)) s7) (bindO (vNil a0) fun x9 => bindO (vField 9 x9) fun x10 => bindO (vLoad s7 x10 1 false) fun x11 => bindO (vIdx 1 x11 r6) fun x12 => bindO (vLoad s7 x12 1 false) fun x13 => Q x13 s7)))
theorem c27_eq (a0 a1 : HV) (s : HS) (Q : HV → HS → Prop) : (match Tryd.f27.body with | some c => hwp Tryd.prog (fun p => none) false 1 c (hretQ Tryd.prog Tryd.f27.results.toList Q) (([a0, a1] : List HV) ++ List.replicate (Tryd.f27.ntmps - 2) (.lit undef)) s | none => False) = c27 a0 a1 s Q := by kernel_rfl
theorem HC27 {a0 a1 : HV} {s : HS} {Q : HV → HS → Prop} (h : c27 a0 a1 s Q) : HC Tryd.prog 27 [a0, a1] s Q := HC_by Tryd.func27 (by have := c27_eq a0 a1 s Q; exact this.mpr h)
/-- slices.ContainsFunc[[]*cordwain/group.member,*cordwain/group.member] -/
def c54 (a0 a1 : HV) (s : HS) (Q : HV → HS → Prop) : Prop :=
  HC Tryd.prog 46 [a0, a1] s (fun r1 s2 => bindO (vBin .geq r1 (.lit (.int .i64 0))) fun x3 => Q x3 s2)
theorem c54_eq (a0 a1 : HV) (s : HS) (Q : HV → HS → Prop) : (match Tryd.f54.body with | some c => hwp Tryd.prog (fun p => none) false 1 c (hretQ Tryd.prog Tryd.f54.results.toList Q) (([a0, a1] : List HV) ++ List.replicate (Tryd.f54.ntmps - 2) (.lit undef)) s | none => False) = c54 a0 a1 s Q := by kernel_rfl
theorem HC54 {a0 a1 : HV} {s : HS} {Q : HV → HS → Prop} (h : c54 a0 a1 s Q) : HC Tryd.prog 54 [a0, a1] s Q := HC_by Tryd.func54 (by have := c54_eq a0 a1 s Q; exact this.mpr h)
/-- (*cordwain/group.Group).each$1 -/
def c55 (a0 a1 : HV) (s : HS) (Q : HV → HS → Prop) : Prop :=
  bindO (vLoad s a1 1 false) fun x1 => hcall Tryd.prog x1 [a0] s (fun r2 s3 => bindO (vUn .not r2) fun x4 => Q x4 s3)
theorem c55_eq (a0 a1 : HV) (s : HS) (Q : HV → HS → Prop) : (match Tryd.f55.body with | some c => hwp Tryd.prog (fun p => none) false 1 c (hretQ Tryd.prog Tryd.f55.results.toList Q) (([a0, a1] : List HV) ++ List.replicate (Tryd.f55.ntmps - 2) (.lit undef)) s | none => False) = c55 a0 a1 s Q := by kernel_rfl
theorem HC55 {a0 a1 : HV} {s : HS} {Q : HV → HS → Prop} (h : c55 a0 a1 s Q) : HC Tryd.prog 55 [a0, a1] s Q := HC_by Tryd.func55 (by have := c55_eq a0 a1 s Q; exact this.mpr h)
/-- (*cordwain/group.Group).each -/
def c34 (a0 a1 : HV) (s : HS) (Q : HV → HS → Prop) : Prop :=
  hBox s a1 (fun x1 s2 => bindO (vNil a0) fun x3 => bindO (vField 9 x3) fun x4 => bindO (vLoad s2 x4 1 false) fun x5 => HC Tryd.prog 54 [x5, (.func (.func 55) [x1])] s2 (fun r6 s7 => bindO (vUn .not r6) fun x8 => Q x8 s7))
theorem c34_eq (a0 a1 : HV) (s : HS) (Q : HV → HS → Prop) : (match Tryd.f34.body with | some c => hwp Tryd.prog (fun p => none) false 1 c (hretQ Tryd.prog Tryd.f34.results.toList Q) (([a0, a1] : List HV) ++ List.replicate (Tryd.f34.ntmps - 2) (.lit undef)) s | none => False) = c34 a0 a1 s Q := by kernel_rfl
theorem HC34 {a0 a1 : HV} {s : HS} {Q : HV → HS → Prop} (h : c34 a0 a1 s Q) : HC Tryd.prog 34 [a0, a1] s Q := HC_by Tryd.func34 (by have := c34_eq a0 a1 s Q; exact this.mpr h)
/-- slices.DeleteFunc[[]*cordwain/group.member,*cordwain/group.member] -/
def c58 (a0 a1 : HV) (s : HS) (Q : HV → HS → Prop) : Prop :=
  HC Tryd.prog 46 [a0, a1] s (fun r1 s2 => bindO (vCmp (Tryd.prog.underlying 3) .eql r1 (.lit (.int .i64 (-1)))) fun x3 => hcond x3 (Q a0 s2) (bindO (vBin .add r1 (.lit (.int .i64 1))) fun x4 => HLoop (fun y6 s7 K5 => bindO (vLenT (Tryd.prog.underlying 66) s7 a0) fun x8 => bindO (vBin .lss (y6.tail.headD .junk) x8) fun x9 => hcond x9 (Join (fun K10 => bindO (vIdx 1 a0 (y6.tail.headD .junk)) fun x13 => bindO (vLoad s7 x13 1 false) fun x14 => hcall Tryd.prog a1 [x14] s7 (fun r15 s16 => bindO (vUn .not r15) fun x17 => hcond x17 (bindO (vIdx 1 a0 (y6.headD .junk)) fun x18 => hStore s16 x18 x14 1 (fun s19 => bindO (vBin .add (y6.headD .junk) (.lit (.int .i64 1))) fun x20 => K10 [x20] s19)) (K10 [(y6.headD .junk)] s16))) (fun y11 s12 => bindO (vBin .add (y6.tail.headD .junk) (.lit (.int .i64 1))) fun x21 => K5 [(y11.headD .junk), x21] s12)) (bindO (vSlice 1 a0 (some (y6.headD .junk)) none none) fun x22 => hClear s7 1 (.pointer none) x22 (fun s23 => bindO (vSlice 1 a0 none (some (y6.headD .junk)) none) fun x24 => Q x24 s23))) [r1, x4] s2))
theorem c58_eq (a0 a1 : HV) (s : HS) (Q : HV → HS → Prop) : (match Tryd.f58.body with | some c => hwp Tryd.prog (fun p => if p = 122 then some [5, 6] else if p = 489 then some [5] else none) false 1 c (hretQ Tryd.prog Tryd.f58.results.toList Q) (([a0, a1] : List HV) ++ List.replicate (Tryd.f58.ntmps - 2) (.lit undef)) s | none => False) = c58 a0 a1 s Q := by kernel_rfl
theorem HC58 {a0 a1 : HV} {s : HS} {Q : HV → HS → Prop} (h : c58 a0 a1 s Q) : HC Tryd.prog 58 [a0, a1] s Q := HC_by Tryd.func58 (by have := c58_eq a0 a1 s Q; exact this.mpr h)
/-- (*cordwain/group.Group).outs -/
def c41 (a0 a1 : HV) (s : HS) (Q : HV → HS → Prop) : Prop :=
  bindO (vNil a0) fun x1 => bindO (vField 9 x1) fun x2 => bindO (vLoad s x2 1 false) fun x3 => bindO (vLenT (Tryd.prog.underlying 66) s x3) fun x4 => bindO (vNil a0) fun x5 => bindO (vField 9 x5) fun x6 => bindO (vLoad s x6 1 false) fun x7 => HC Tryd.prog 58 [x7, a1] s (fun r8 s9 => bindO (vNil a0) fun x10 => bindO (vField 9 x10) fun x11 => hStore s9 x11 r8 1 (fun s12 => bindO (vNil a0) fun x13 => bindO (vField 9 x13) fun x14 => bindO (vLoad s12 x14 1 false) fun x15 => bindO (vLenT (Tryd.prog.underlying 66) s12 x15) fun x16 => bindO (vBin .lss x16 x4) fun x17 => Q x17 s12))
theorem c41_eq (a0 a1 : HV) (s : HS) (Q : HV → HS → Prop) : (match Tryd.f41.body with | some c => hwp Tryd.prog (fun p => none) false 1 c (hretQ Tryd.prog Tryd.f41.results.toList Q) (([a0, a1] : List HV) ++ List.replicate (Tryd.f41.ntmps - 2) (.lit undef)) s | none => False) = c41 a0 a1 s Q := by kernel_rfl
theorem HC41 {a0 a1 : HV} {s : HS} {Q : HV → HS → Prop} (h : c41 a0 a1 s Q) : HC Tryd.prog 41 [a0, a1] s Q := HC_by Tryd.func41 (by have := c41_eq a0 a1 s Q; exact this.mpr h)
/-- (*cordwain/group.Group).over -/
def c50 (a0 : HV) (s : HS) (Q : HV → HS → Prop) : Prop :=
  bindO (vNil a0) fun x1 => bindO (vField 6 x1) fun x2 => bindO (vLoad s x2 1 false) fun x3 => bindO (vNil a0) fun x4 => bindO (vField 7 x4) fun x5 => bindO (vLoad s x5 1 false) fun x6 => bindO (vBin .sub x3 x6) fun x7 => bindO (vNil a0) fun x8 => bindO (vField 1 x8) fun x9 => bindO (vLoad s x9 1 false) fun x10 => bindO (vBin .geq x7 x10) fun x11 => Q x11 s
theorem c50_eq (a0 : HV) (s : HS) (Q : HV → HS → Prop) : (match Tryd.f50.body with | some c => hwp Tryd.prog (fun p => none) false 1 c (hretQ Tryd.prog Tryd.f50.results.toList Q) (([a0] : List HV) ++ List.replicate (Tryd.f50.ntmps - 1) (.lit undef)) s | none => False) = c50 a0 s Q := by kernel_rfl
theorem HC50 {a0 : HV} {s : HS} {Q : HV → HS → Prop} (h : c50 a0 s Q) : HC Tryd.prog 50 [a0] s Q := HC_by Tryd.func50 (by have := c50_eq a0 s Q; exact this.mpr h)
/-- (*cordwain/group.Group).forms$1 -/
def c49 (a0 : HV) (s : HS) (Q : HV → HS → Prop) : Prop :=
  bindO (vNil a0) fun x1 => bindO (vField 3 x1) fun x2 => bindO (vLoad s x2 1 false) fun x3 => Q x3 s
theorem c49_eq (a0 : HV) (s : HS) (Q : HV → HS → Prop) : (match Tryd.f49.body with | some c => hwp Tryd.prog (fun p => none) false 1 c (hretQ Tryd.prog Tryd.f49.results.toList Q) (([a0] : List HV) ++ List.replicate (Tryd.f49.ntmps - 1) (.lit undef)) s | none => False) = c49 a0 s Q := by kernel_rfl
theorem HC49 {a0 : HV} {s : HS} {Q : HV → HS → Prop} (h : c49 a0 s Q) : HC Tryd.prog 49 [a0] s Q := HC_by Tryd.func49 (by have := c49_eq a0 s Q; exact this.mpr h)
/-- (*cordwain/group.Group).forms$2 -/
def c51 (a0 : HV) (s : HS) (Q : HV → HS → Prop) : Prop :=
  bindO (vNil a0) fun x1 => bindO (vField 3 x1) fun x2 => bindO (vLoad s x2 1 false) fun x3 => bindO (vUn .not x3) fun x4 => Q x4 s
theorem c51_eq (a0 : HV) (s : HS) (Q : HV → HS → Prop) : (match Tryd.f51.body with | some c => hwp Tryd.prog (fun p => none) false 1 c (hretQ Tryd.prog Tryd.f51.results.toList Q) (([a0] : List HV) ++ List.replicate (Tryd.f51.ntmps - 1) (.lit undef)) s | none => False) = c51 a0 s Q := by kernel_rfl
theorem HC51 {a0 : HV} {s : HS} {Q : HV → HS → Prop} (h : c51 a0 s Q) : HC Tryd.prog 51 [a0] s Q := HC_by Tryd.func51 (by have := c51_eq a0 s Q; exact this.mpr h)
/-- slices.IndexFunc[[]cordwain/assign.Topic,cordwain/assign.Topic] -/
def c84 (a0 a1 : HV) (s : HS) (Q : HV → HS → Prop) : Prop :=
  bindO (vLenT (Tryd.prog.underlying 29) s a0) fun x1 => HLoop (fun y3 s4 K2 => bindO (vBin .lss (y3.headD .junk) x1) fun x5 => hcond x5 (bindO (vIdx 2 a0 (y3.headD .junk)) fun x6 => bindO (vLoad s4 x6 2 true) fun x7 => hcall Tryd.prog a1 [x7] s4 (fun r8 s9 => hcond r8 (Q (y3.headD .junk) s9) (bindO (vBin .add (y3.headD .junk) (.lit (.int .i64 1))) fun x10 => K2 [x10] s9))) (Q (.lit (.int .i64 (-1))) s4)) [(.lit (.int .i64 0))] s
theorem c84_eq (a0 a1 : HV) (s : HS) (Q : HV → HS → Prop) : (match Tryd.f84.body with | some c => hwp Tryd.prog (fun p => if p = 26 then some [8] else none) false 1 c (hretQ Tryd.prog Tryd.f84.results.toList Q) (([a0, a1] : List HV) ++ List.replicate (Tryd.f84.ntmps - 2) (.lit undef)) s | none => False) = c84 a0 a1 s Q := by kernel_rfl
theorem HC84 {a0 a1 : HV} {s : HS} {Q : HV → HS → Prop} (h : c84 a0 a1 s Q) : HC Tryd.prog 84 [a0, a1] s Q := HC_by Tryd.func84 (by have := c84_eq a0 a1 s Q; exact this.mpr h)
/-- cordwain/assign.open$1 -/
def c69 (a0 : HV) (s : HS) (Q : HV → HS → Prop) : Prop :=
  hBox s a0 (fun x1 s2 => bindO (vField 1 x1) fun x3 => bindO (vLoad s2 x3 1 false) fun x4 => bindO (vBin .lss x4 (.lit (.int .i64 0))) fun x5 => hcond x5 (Q (.lit (.bool true)) s2) (bindO (vField 1 x1) fun x6 => bindO (vLoad s2 x6 1 false) fun x7 => bindO (vBin .gtr x7 (.lit (.int .i64 1000))) fun x8 => Q x8 s2))
theorem c69_eq (a0 : HV) (s : HS) (Q : HV → HS → Prop) : (match Tryd.f69.body with | some c => hwp Tryd.prog (fun p => none) false 1 c (hretQ Tryd.prog Tryd.f69.results.toList Q) (([a0] : List HV) ++ List.replicate (Tryd.f69.ntmps - 1) (.lit undef)) s | none => False) = c69 a0 s Q := by kernel_rfl
theorem HC69 {a0 : HV} {s : HS} {Q : HV → HS → Prop} (h : c69 a0 s Q) : HC Tryd.prog 69 [a0] s Q := HC_by Tryd.func69 (by have := c69_eq a0 s Q; exact this.mpr h)
/-- slices.ContainsFunc[[]cordwain/assign.Topic,cordwain/assign.Topic] -/
def c68 (a0 a1 : HV) (s : HS) (Q : HV → HS → Prop) : Prop :=
  HC Tryd.prog 84 [a0, a1] s (fun r1 s2 => bindO (vBin .geq r1 (.lit (.int .i64 0))) fun x3 => Q x3 s2)
theorem c68_eq (a0 a1 : HV) (s : HS) (Q : HV → HS → Prop) : (match Tryd.f68.body with | some c => hwp Tryd.prog (fun p => none) false 1 c (hretQ Tryd.prog Tryd.f68.results.toList Q) (([a0, a1] : List HV) ++ List.replicate (Tryd.f68.ntmps - 2) (.lit undef)) s | none => False) = c68 a0 a1 s Q := by kernel_rfl
theorem HC68 {a0 a1 : HV} {s : HS} {Q : HV → HS → Prop} (h : c68 a0 a1 s Q) : HC Tryd.prog 68 [a0, a1] s Q := HC_by Tryd.func68 (by have := c68_eq a0 a1 s Q; exact this.mpr h)
/-- slices.Clone[[]cordwain/assign.Member,cordwain/assign.Member] -/
def c85 (a0 : HV) (s : HS) (Q : HV → HS → Prop) : Prop :=
  bindO (vCmp (Tryd.prog.underlying 92) .eql a0 (.lit (.slice none 0 0))) fun x1 => hcond x1 (Q (.lit (.slice none 0 0)) s) (hBS s 2 0 [] [] (fun x2 s3 => hAppend s3 2 40 x2 a0 (fun x4 s5 => Q x4 s5)))
theorem c85_eq (a0 : HV) (s : HS) (Q : HV → HS → Prop) : (match Tryd.f85.body with | some c => hwp Tryd.prog (fun p => none) false 1 c (hretQ Tryd.prog Tryd.f85.results.toList Q) (([a0] : List HV) ++ List.replicate (Tryd.f85.ntmps - 1) (.lit undef)) s | none => False) = c85 a0 s Q := by kernel_rfl
theorem HC85 {a0 : HV} {s : HS} {Q : HV → HS → Prop} (h : c85 a0 s Q) : HC Tryd.prog 85 [a0] s Q := HC_by Tryd.func85 (by have := c85_eq a0 s Q; exact this.mpr h)
/-- slices.insertionSortCmpFunc[cordwain/assign.Member] -/
def c96 (a0 a1 a2 a3 : HV) (s : HS) (Q : HV → HS → Prop) : Prop :=
  bindO (vBin .add a1 (.lit (.int .i64 1))) fun x1 => HLoop (fun y3 s4 K2 => bindO (vBin .lss (y3.headD .junk) a2) fun x5 => hcond x5 (HLoop (fun y7 s8 K6 => Join (fun K9 => bindO (vBin .gtr (y7.headD .junk) a1) fun x12 => hcond x12 (bindO (vIdx 2 a0 (y7.headD .junk)) fun x13 => bindO (vLoad s8 x13 2 true) fun x14 => bindO (vBin .sub (y7.headD .junk) (.lit (.int .i64 1))) fun x15 => bindO (vIdx 2 a0 x15) fun x16 => bindO (vLoad s8 x16 2 true) fun x17 => hcall Tryd.prog a3 [x14, x17] s8 (fun r18 s19 => bindO (vBin .lss r18 (.lit (.int .i64 0))) fun x20 => K9 [x20] s19)) (K9 [(.lit (.bool false))] s8)) (fun y10 s11 => hcond (y10.headD .junk) (bindO (vBin .sub (y7.headD .junk) (.lit (.int .i64 1))) fun x21 => bindO (vBin .sub (y7.headD .junk) (.lit (.int .i64 1))) fun x22 => bindO (vIdx 2 a0 x22) fun x23 => bindO (vLoad s11 x23 2 true) fun x24 => bindO (vIdx 2 a0 (y7.headD .junk)) fun x25 => bindO (vLoad s11 x25 2 true) fun x26 => bindO (vIdx 2 a0 (y7.headD .junk)) fun x27 => hStore s11 x27 x24 2 (fun s28 => bindO (vIdx 2 a0 x21) fun x29 => hStore s28 x29 x26 2 (fun s30 => bindO (vBin .sub (y7.headD .junk) (.lit (.int .i64 1))) fun x31 => K6 [x31] s30))) (bindO (vBin .add (y3.headD .junk) (.lit (.int .i64 1))) fun x32 => K2 [x32] s11))) [(y3.headD .junk)] s4) (Q (.tup []) s4)) [x1] s
theorem c96_eq (a0 a1 a2 a3 : HV) (s : HS) (Q : HV → HS → Prop) : (match Tryd.f96.body with | some c => hwp Tryd.prog (fun p => if p = 6 then some [8] else if p = 402 then some [9] else if p = 1608 then some [34] else none) false 1 c (hretQ Tryd.prog Tryd.f96.results.toList Q) (([a0, a1, a2, a3] : List HV) ++ List.replicate (Tryd.f96.ntmps - 4) (.lit undef)) s | none => False) = c96 a0 a1 a2 a3 s Q := by kernel_rfl
theorem HC96 {a0 a1 a2 a3 : HV} {s : HS} {Q : HV → HS → Prop} (h : c96 a0 a1 a2 a3 s Q) : HC Tryd.prog 96 [a0, a1, a2, a3] s Q := HC_by Tryd.func96 (by have := c96_eq a0 a1 a2 a3 s Q; exact this.mpr h)
/-- slices.swapRangeCmpFunc[cordwain/assign.Member] -/
def c101 (a0 a1 a2 a3 a4 : HV) (s : HS) (Q : HV → HS → Prop) : Prop :=
  HLoop (fun y2 s3 K1 => bindO (vBin .lss (y2.headD .junk) a3) fun x4 => hcond x4 (bindO (vBin .add a1 (y2.headD .junk)) fun x5 => bindO (vBin .add a2 (y2.headD .junk)) fun x6 => bindO (vBin .add a2 (y2.headD .junk)) fun x7 => bindO (vIdx 2 a0 x7) fun x8 => bindO (vLoad s3 x8 2 true) fun x9 => bindO (vBin .add a1 (y2.headD .junk)) fun x10 => bindO (vIdx 2 a0 x10) fun x11 => bindO (vLoad s3 x11 2 true) fun x12 => bindO (vIdx 2 a0 x5) fun x13 => hStore s3 x13 x9 2 (fun s14 => bindO (vIdx 2 a0 x6) fun x15 => hStore s14 x15 x12 2 (fun s16 => bindO (vBin .add (y2.headD .junk) (.lit (.int .i64 1))) fun x17 => K1 [x17] s16))) (Q (.tup []) s3)) [(.lit (.int .i64 0))] s
theorem c101_eq (a0 a1 a2 a3 a4 : HV) (s : HS) (Q : HV → HS → Prop) : (match Tryd.f101.body with | some c => hwp Tryd.prog (fun p => if p = 6 then some [10] else none) false 1 c (hretQ Tryd.prog Tryd.f101.results.toList Q) (([a0, a1, a2, a3, a4] : List HV) ++ List.replicate (Tryd.f101.ntmps - 5) (.lit undef)) s | none => False) = c101 a0 a1 a2 a3 a4 s Q := by kernel_rfl
theorem HC101 {a0 a1 a2 a3 a4 : HV} {s : HS} {Q : HV → HS → Prop} (h : c101 a0 a1 a2 a3 a4 s Q) : HC Tryd.prog 101 [a0, a1, a2, a3, a4] s Q := HC_by Tryd.func101 (by have := c101_eq a0 a1 a2 a3 a4 s Q; exact this.mpr h)
/-- slices.rotateCmpFunc[cordwain/assign.Member] -/
def c99 (a0 a1 a2 a3 a4 : HV) (s : HS) (Q : HV → HS → Prop) : Prop :=
  bindO (vBin .sub a2 a1) fun x1 => bindO (vBin .sub a3 a2) fun x2 => HLoop (fun y4 s5 K3 => bindO (vCmp (Tryd.prog.underlying 3) .neq (y4.headD .junk) (y4.tail.headD .junk)) fun x6 => hcond x6 (bindO (vBin .gtr (y4.headD .junk) (y4.tail.headD .junk)) fun x7 => hcond x7 (bindO (vBin .sub a2 (y4.headD .junk)) fun x8 => HC Tryd.prog 101 [a0, x8, a2, (y4.tail.headD .junk), a4] s5 (fun r9 s10 => bindO (vBin .sub (y4.headD .junk) (y4.tail.headD .junk)) fun x11 => K3 [x11, (y4.tail.headD .junk)] s10)) (bindO (vBin .sub a2 (y4.headD .junk)) fun x12 => bindO (vBin .add a2 (y4.tail.headD .junk)) fun x13 => bindO (vBin .sub x13 (y4.headD .junk)) fun x14 => HC Tryd.prog 101 [a0, x12, x14, (y4.headD .junk), a4] s5 (fun r15 s16 => bindO (vBin .sub (y4.tail.headD .junk) (y4.headD .junk)) fun x17 => K3 [(y4.headD .junk), x17] s16))) (bindO (vBin .sub a2 (y4.headD .junk)) fun x18 => HC Tryd.prog 101 [a0, x18, a2, (y4.headD .junk), a4] s5 (fun r19 s20 => Q (.tup []) s20))) [x1, x2] s
theorem c99_eq (a0 a1 a2 a3 a4 : HV) (s : HS) (Q : HV → HS → Prop) : (match Tryd.f99.body with | some c => hwp Tryd.prog (fun p => if p = 28 then some [10, 11] else none) false 1 c (hretQ Tryd.prog Tryd.f99.results.toList Q) (([a0, a1, a2, a3, a4] : List HV) ++ List.replicate (Tryd.f99.ntmps - 5) (.lit undef)) s | none => False) = c99 a0 a1 a2 a3 a4 s Q := by kernel_rfl
theorem HC99 {a0 a1 a2 a3 a4 : HV} {s : HS} {Q : HV → HS → Prop} (h : c99 a0 a1 a2 a3 a4 s Q) : HC Tryd.prog 99 [a0, a1, a2, a3, a4] s Q := HC_by Tryd.func99 (by have := c99_eq a0 a1 a2 a3 a4 s Q; exact this.mpr h)
/-- slices.symMergeCmpFunc[cordwain/assign.Member] -/
def c97 (a0 a1 a2 a3 a4 : HV) (s : HS) (Q : HV → HS → Prop) : Prop :=
  bindO (vBin .sub a2 a1) fun x1 => bindO (vCmp (Tryd.prog.underlying 3) .eql x1 (.lit (.int .i64 1))) fun x2 => hcond x2 (HLoop (fun y4 s5 K3 => bindO (vBin .lss (y4.headD .junk) (y4.tail.headD .junk)) fun x6 => hcond x6 (bindO (vBin .add (y4.headD .junk) (y4.tail.headD .junk)) fun x7 => bindO (vToInt .u64 x7) fun x8 => bindO (vBin .shr x8 (.lit (.int .u64 1))) fun x9 => bindO (vToInt .i64 x9) fun x10 => bindO (vIdx 2 a0 x10) fun x11 => bindO (vLoad s5 x11 2 true) fun x12 => bindO (vIdx 2 a0 a1) fun x13 => bindO (vLoad s5 x13 2 true) fun x14 => hcall Tryd.prog a4 [x12, x14] s5 (fun r15 s16 => bindO (vBin .lss r15 (.lit (.int .i64 0))) fun x17 => hcond x17 (bindO (vBin .add x10 (.lit (.int .i64 1))) fun x18 => K3 [x18, (y4.tail.headD .junk)] s16) (K3 [(y4.headD .junk), x10] s16))) (HLoop (fun y20 s21 K19 => bindO (vBin .sub (y4.headD .junk) (.lit (.int .i64 1))) fun x22 => bindO (vBin .lss (y20.headD .junk) x22) fun x23 => hcond x23 (bindO (vBin .add (y20.headD .junk) (.lit (.int .i64 1))) fun x24 => bindO (vBin .add (y20.headD .junk) (.lit (.int .i64 1))) fun x25 => bindO (vIdx 2 a0 x25) fun x26 => bindO (vLoad s21 x26 2 true) fun x27 => bindO (vIdx 2 a0 (y20.headD .junk)) fun x28 => bindO (vLoad s21 x28 2 true) fun x29 => bindO (vIdx 2 a0 (y20.headD .junk)) fun x30 => hStore s21 x30 x27 2 (fun s31 => bindO (vIdx 2 a0 x24) fun x32 => hStore s31 x32 x29 2 (fun s33 => bindO (vBin .add (y20.headD .junk) (.lit (.int .i64 1))) fun x34 => K19 [x34] s33))) (Q (.tup []) s21)) [a1] s5)) [a2, a3] s) (bindO (vBin .sub a3 a2) fun x35 => bindO (vCmp (Tryd.prog.underlying 3) .eql x35 (.lit (.int .i64 1))) fun x36 => hcond x36 (HLoop (fun y38 s39 K37 => bindO (vBin .lss (y38.headD .junk) (y38.tail.headD .junk)) fun x40 => hcond x40 (bindO (vBin .add (y38.headD .junk) (y38.tail.headD .junk)) fun x41 => bindO (vToInt .u64 x41) fun x42 => bindO (vBin .shr x42 (.lit (.int .u64 1))) fun x43 => bindO (vToInt .i64 x43) fun x44 => bindO (vIdx 2 a0 a2) fun x45 => bindO (vLoad s39 x45 2 true) fun x46 => bindO (vIdx 2 a0 x44) fun x47 => bindO (vLoad s39 x47 2 true) fun x48 => hcall Tryd.prog a4 [x46, x48] s39 (fun r49 s50 => bindO (vBin .lss r49 (.lit (.int .i64 0))) fun x51 => bindO (vUn .not x51) fun x52 => hcond x52 (bindO (vBin .add x44 (.lit (.int .i64 1))) fun x53 => K37 [x53, (y38.tail.headD .junk)] s50) (K37 [(y38.headD .junk), x44] s50))) (HLoop (fun y55 s56 K54 => bindO (vBin .gtr (y55.headD .junk) (y38.headD .junk)) fun x57 => hcond x57 (bindO (vBin .sub (y55.headD .junk) (.lit (.int .i64 1))) fun x58 => bindO (vBin .sub (y55.headD .junk) (.lit (.int .i64 1))) fun x59 => bindO (vIdx 2 a0 x59) fun x60 => bindO (vLoad s56 x60 2 true) fun x61 => bindO (vIdx 2 a0 (y55.headD .junk)) fun x62 => bindO (vLoad s56 x62 2 true) fun x63 => bindO (vIdx 2 a0 (y55.headD .junk)) fun x64 => hStore s56 x64 x61 2 (fun s65 => bindO (vIdx 2 a0 x58) fun x66 => hStore s65 x66 x63 2 (fun s67 => bindO (vBin .sub (y55.headD .junk) (.lit (.int .i64 1))) fun x68 => K54 [x68] s67))) (Q (.tup []) s56)) [a2] s39)) [a1, a2] s) (bindO (vBin .add a1 a3) fun x69 => bindO (vToInt .u64 x69) fun x70 => bindO (vBin .shr x70 (.lit (.int .u64 1))) fun x71 => bindO (vToInt .i64 x71) fun x72 => bindO (vBin .add x72 a2) fun x73 => Join (fun K74 => bindO (vBin .gtr a2 x72) fun x77 => hcond x77 (bindO (vBin .sub x73 a3) fun x78 => K74 [x78, x72] s) (K74 [a1, a2] s)) (fun y75 s76 => bindO (vBin .sub x73 (.lit (.int .i64 1))) fun x79 => HLoop (fun y81 s82 K80 => bindO (vBin .lss (y81.headD .junk) (y81.tail.headD .junk)) fun x83 => hcond x83 (bindO (vBin .add (y81.headD .junk) (y81.tail.headD .junk)) fun x84 => bindO (vToInt .u64 x84) fun x85 => bindO (vBin .shr x85 (.lit (.int .u64 1))) fun x86 => bindO (vToInt .i64 x86) fun x87 => bindO (vBin .sub x79 x87) fun x88 => bindO (vIdx 2 a0 x88) fun x89 => bindO (vLoad s82 x89 2 true) fun x90 => bindO (vIdx 2 a0 x87) fun x91 => bindO (vLoad s82 x91 2 true) fun x92 => hcall Tryd.prog a4 [x90, x92] s82 (fun r93 s94 => bindO (vBin .lss r93 (.lit (.int .i64 0))) fun x95 => bindO (vUn .not x95) fun x96 => hcond x96 (bindO (vBin .add x87 (.lit (.int .i64 1))) fun x97 => K80 [x97, (y81.tail.headD .junk)] s94) (K80 [(y81.headD .junk), x87] s94))) (bindO (vBin .sub x73 (y81.headD .junk)) fun x98 => Join (fun K99 => Join (fun K102 => bindO (vBin .lss (y81.headD .junk) a2) fun x105 => hcond x105 (bindO (vBin .lss a2 x98) fun x106 => K102 [x106] s82) (K102 [(.lit (.bool false))] s82)) (fun y103 s104 => hcond (y103.headD .junk) (HC Tryd.prog 99 [a0, (y81.headD .junk), a2, x98, a4] s104 (fun r107 s108 => K99 [] s108)) (K99 [] s104))) (fun y100 s101 => Join (fun K109 => Join (fun K112 => bindO (vBin .lss a1 (y81.headD .junk)) fun x115 => hcond x115 (bindO (vBin .lss (y81.headD .junk) x72) fun x116 => K112 [x116] s101) (K112 [(.lit (.bool false))] s101)) (fun y113 s114 => hcond (y113.headD .junk) (HC Tryd.prog 97 [a0, a1, (y81.headD .junk), x72, a4] s114 (fun r117 s118 => K109 [] s118)) (K109 [] s114))) (fun y110 s111 => Join (fun K119 => bindO (vBin .lss x72 x98) fun x122 => hcond x122 (bindO (vBin .lss x98 a3) fun x123 => K119 [x123] s111) (K119 [(.lit (.bool false))] s111)) (fun y120 s121 => hcond (y120.headD .junk) (HC Tryd.prog 97 [a0, x72, x98, a3, a4] s121 (fun r124 s125 => Q (.tup []) s125)) (Q (.tup []) s121)))))) [(y75.headD .junk), (y75.tail.headD .junk)] s76)))
theorem c97_eq (a0 a1 a2 a3 a4 : HV) (s : HS) (Q : HV → HS → Prop) : (match Tryd.f97.body with | some c => hwp Tryd.prog (fun p => if p = 63 then some [20, 21] else if p = 172 then some [10, 11] else if p = 428 then some [14, 15] else if p = 698 then some [13] else if p = 1020 then some [20, 21] else if p = 1023 then some [] else if p = 1722 then some [17] else if p = 2046 then some [185] else if p = 2047 then some [] else if p = 4094 then some [199] else if p = 4095 then some [213] else none) false 1 c (hretQ Tryd.prog Tryd.f97.results.toList Q) (([a0, a1, a2, a3, a4] : List HV) ++ List.replicate (Tryd.f97.ntmps - 5) (.lit undef)) s | none => False) = c97 a0 a1 a2 a3 a4 s Q := by kernel_rfl
theorem HC97 {a0 a1 a2 a3 a4 : HV} {s : HS} {Q : HV → HS → Prop} (h : c97 a0 a1 a2 a3 a4 s Q) : HC Tryd.prog 97 [a0, a1, a2, a3, a4] s Q := HC_by Tryd.func97 (by have := c97_eq a0 a1 a2 a3 a4 s Q; exact this.mpr h)
/-- slices.stableCmpFunc[cordwain/assign.Member] -/
def c93 (a0 a1 a2 : HV) (s : HS) (Q : HV → HS → Prop) : Prop :=
  HLoop (fun y2 s3 K1 => bindO (vBin .leq (y2.tail.headD .junk) a1) fun x4 => hcond x4 (HC Tryd.prog 96 [a0, (y2.headD .junk), (y2.tail.headD .junk), a2] s3 (fun r5 s6 => bindO (vBin .add (y2.tail.headD .junk) (.lit (.int .i64 20))) fun x7 => K1 [(y2.tail.headD .junk), x7] s6)) (HC Tryd.prog 96 [a0, (y2.headD .junk), a1, a2] s3 (fun r8 s9 => HLoop (fun y11 s12 K10 => bindO (vBin .lss (y11.headD .junk) a1) fun x13 => hcond x13 (bindO (vBin .mul (.lit (.int .i64 2)) (y11.headD .junk)) fun x14 => HLoop (fun y16 s17 K15 => bindO (vBin .leq (y16.tail.headD .junk) a1) fun x18 => hcond x18 (bindO (vBin .add (y16.headD .junk) (y11.headD .junk)) fun x19 => HC Tryd.prog 97 [a0, (y16.headD .junk), x19, (y16.tail.headD .junk), a2] s17 (fun r20 s21 => bindO (vBin .mul (.lit (.int .i64 2)) (y11.headD .junk)) fun x22 => bindO (vBin .add (y16.tail.headD .junk) x22) fun x23 => K15 [(y16.tail.headD .junk), x23] s21)) (Join (fun K24 => bindO (vBin .add (y16.headD .junk) (y11.headD .junk)) fun x27 => bindO (vBin .lss x27 a1) fun x28 => hcond x28 (HC Tryd.prog 97 [a0, (y16.headD .junk), x27, a1, a2] s17 (fun r29 s30 => K24 [] s30)) (K24 [] s17)) (fun y25 s26 => bindO (vBin .mul (y11.headD .junk) (.lit (.int .i64 2))) fun x31 => K10 [x31] s26))) [(.lit (.int .i64 0)), x14] s12) (Q (.tup []) s12)) [(.lit (.int .i64 20))] s9))) [(.lit (.int .i64 0)), (.lit (.int .i64 20))] s
theorem c93_eq (a0 a1 a2 : HV) (s : HS) (Q : HV → HS → Prop) : (match Tryd.f93.body with | some c => hwp Tryd.prog (fun p => if p = 28 then some [7, 8] else if p = 62 then some [6] else if p = 1995 then some [] else if p = 3988 then some [7, 8] else none) false 1 c (hretQ Tryd.prog Tryd.f93.results.toList Q) (([a0, a1, a2] : List HV) ++ List.replicate (Tryd.f93.ntmps - 3) (.lit undef)) s | none => False) = c93 a0 a1 a2 s Q := by kernel_rfl
theorem HC93 {a0 a1 a2 : HV} {s : HS} {Q : HV → HS → Prop} (h : c93 a0 a1 a2 s Q) : HC Tryd.prog 93 [a0, a1, a2] s Q := HC_by Tryd.func93 (by have := c93_eq a0 a1 a2 s Q; exact this.mpr h)
/-- slices.SortStableFunc[[]cordwain/assign.Member,cordwain/assign.Member] -/
def c86 (a0 a1 : HV) (s : HS) (Q : HV → HS → Prop) : Prop :=
  bindO (vLenT (Tryd.prog.underlying 92) s a0) fun x1 => HC Tryd.prog 93 [a0, x1, a1] s (fun r2 s3 => Q (.tup []) s3)
theorem c86_eq (a0 a1 : HV) (s : HS) (Q : HV → HS → Prop) : (match Tryd.f86.body with | some c => hwp Tryd.prog (fun p => none) false 1 c (hretQ Tryd.prog Tryd.f86.results.toList Q) (([a0, a1] : List HV) ++ List.replicate (Tryd.f86.ntmps - 2) (.lit undef)) s | none => False) = c86 a0 a1 s Q := by kernel_rfl
theorem HC86 {a0 a1 : HV} {s : HS} {Q : HV → HS → Prop} (h : c86 a0 a1 s Q) : HC Tryd.prog 86 [a0, a1] s Q := HC_by Tryd.func86 (by have := c86_eq a0 a1 s Q; exact this.mpr h)
/-- cmp.Compare[string] -/
def c77 (a0 a1 : HV) (s : HS) (Q : HV → HS → Prop) : Prop :=
  HC Tryd.prog 90 [a0] s (fun r1 s2 => HC Tryd.prog 90 [a1] s2 (fun r3 s4 => hcond r1 (hcond r3 (Q (.lit (.int .i64 0)) s4) (Q (.lit (.int .i64 (-1))) s4)) (hcond r3 (Q (.lit (.int .i64 1)) s4) (bindO (vBin .lss a0 a1) fun x5 => hcond x5 (Q (.lit (.int .i64 (-1))) s4) (bindO (vBin .gtr a0 a1) fun x6 => hcond x6 (Q (.lit (.int .i64 1)) s4) (Q (.lit (.int .i64 0)) s4))))))
theorem c77_eq (a0 a1 : HV) (s : HS) (Q : HV → HS → Prop) : (match Tryd.f77.body with | some c => hwp Tryd.prog (fun p => none) false 1 c (hretQ Tryd.prog Tryd.f77.results.toList Q) (([a0, a1] : List HV) ++ List.replicate (Tryd.f77.ntmps - 2) (.lit undef)) s | none => False) = c77 a0 a1 s Q := by kernel_rfl
theorem HC77 {a0 a1 : HV} {s : HS} {Q : HV → HS → Prop} (h : c77 a0 a1 s Q) : HC Tryd.prog 77 [a0, a1] s Q := HC_by Tryd.func77 (by have := c77_eq a0 a1 s Q; exact this.mpr h)
/-- cmp.isNaN[string] -/
def c90 (a0 : HV) (s : HS) (Q : HV → HS → Prop) : Prop :=
  bindO (vCmp (Tryd.prog.underlying 9) .neq a0 a0) fun x1 => Q x1 s
theorem c90_eq (a0 : HV) (s : HS) (Q : HV → HS → Prop) : (match Tryd.f90.body with | some c => hwp Tryd.prog (fun p => none) false 1 c (hretQ Tryd.prog Tryd.f90.results.toList Q) (([a0] : List HV) ++ List.replicate (Tryd.f90.ntmps - 1) (.lit undef)) s | none => False) = c90 a0 s Q := by kernel_rfl
theorem HC90 {a0 : HV} {s : HS} {Q : HV → HS → Prop} (h : c90 a0 s Q) : HC Tryd.prog 90 [a0] s Q := HC_by Tryd.func90 (by have := c90_eq a0 s Q; exact this.mpr h)
/-- cordwain/assign.sorted[cordwain/assign.Member]$1 -/
def c87 (a0 a1 a2 : HV) (s : HS) (Q : HV → HS → Prop) : Prop :=
  hBox s a0 (fun x1 s2 => hBox s2 a1 (fun x3 s4 => bindO (vLoad s4 a2 1 false) fun x5 => bindO (vLoad s4 x1 2 true) fun x6 => bindO (vLoad s4 a2 1 false) fun x7 => bindO (vLoad s4 x3 2 true) fun x8 => hcall Tryd.prog x5 [x6] s4 (fun r9 s10 => (vLoad s10 x3 2 true = vLoad s4 x3 2 true ∧ (vLoad s10 a2 1 false = vLoad s4 a2 1 false ∧ hcall Tryd.prog x7 [x8] s10 (fun r11 s12 => HC Tryd.prog 77 [r9, r11] s12 (fun r13 s14 => Q r13 s14)))))))
theorem c87_eq (a0 a1 a2 : HV) (s : HS) (Q : HV → HS → Prop) : (match Tryd.f87.body with | some c => hwp Tryd.prog (fun p => none) false 1 c (hretQ Tryd.prog Tryd.f87.results.toList Q) (([a0, a1, a2] : List HV) ++ List.replicate (Tryd.f87.ntmps - 3) (.lit undef)) s | none => False) = c87 a0 a1 a2 s Q := by kernel_rfl
theorem HC87 {a0 a1 a2 : HV} {s : HS} {Q : HV → HS → Prop} (h : c87 a0 a1 a2 s Q) : HC Tryd.prog 87 [a0, a1, a2] s Q := HC_by Tryd.func87 (by have := c87_eq a0 a1 a2 s Q; exact this.mpr h)
/-- cordwain/assign.open$2 -/
def c71 (a0 : HV) (s : HS) (Q : HV → HS → Prop) : Prop :=
  hBox s a0 (fun x1 s2 => bindO (vField 0 x1) fun x3 => bindO (vLoad s2 x3 1 false) fun x4 => Q x4 s2)
theorem c71_eq (a0 : HV) (s : HS) (Q : HV → HS → Prop) : (match Tryd.f71.body with | some c => hwp Tryd.prog (fun p => none) false 1 c (hretQ Tryd.prog Tryd.f71.results.toList Q) (([a0] : List HV) ++ List.replicate (Tryd.f71.ntmps - 1) (.lit undef)) s | none => False) = c71 a0 s Q := by kernel_rfl
theorem HC71 {a0 : HV} {s : HS} {Q : HV → HS → Prop} (h : c71 a0 s Q) : HC Tryd.prog 71 [a0] s Q := HC_by Tryd.func71 (by have := c71_eq a0 s Q; exact this.mpr h)
/-- cordwain/assign.sorted[cordwain/assign.Member] -/
def c70 (a0 a1 : HV) (s : HS) (Q : HV → HS → Prop) : Prop :=
  hBox s a1 (fun x1 s2 => HC Tryd.prog 85 [a0] s2 (fun r3 s4 => HC Tryd.prog 86 [r3, (.func (.func 87) [x1])] s4 (fun r5 s6 => HLoop (fun y8 s9 K7 => bindO (vLenT (Tryd.prog.underlying 92) s9 r3) fun x10 => bindO (vBin .lss (y8.headD .junk) x10) fun x11 => hcond x11 (bindO (vLoad s9 x1 1 false) fun x12 => bindO (vIdx 2 r3 (y8.headD .junk)) fun x13 => bindO (vLoad s9 x13 2 true) fun x14 => bindO (vLoad s9 x1 1 false) fun x15 => bindO (vBin .sub (y8.headD .junk) (.lit (.int .i64 1))) fun x16 => bindO (vIdx 2 r3 x16) fun x17 => bindO (vLoad s9 x17 2 true) fun x18 => hcall Tryd.prog x12 [x14] s9 (fun r19 s20 => (vLoad s20 x17 2 true = vLoad s9 x17 2 true ∧ (vLoad s20 x1 1 false = vLoad s9 x1 1 false ∧ hcall Tryd.prog x15 [x18] s20 (fun r21 s22 => bindO (vCmp (Tryd.prog.underlying 9) .eql r19 r21) fun x23 => hcond x23 (Q (.tup [(.lit (.slice none 0 0)), (.lit (.bool false))]) s22) (bindO (vBin .add (y8.headD .junk) (.lit (.int .i64 1))) fun x24 => K7 [x24] s22)))))) (Q (.tup [r3, (.lit (.bool true))]) s9)) [(.lit (.int .i64 1))] s6)))
theorem c70_eq (a0 a1 : HV) (s : HS) (Q : HV → HS → Prop) : (match Tryd.f70.body with | some c => hwp Tryd.prog (fun p => if p = 122 then some [7] else none) false 1 c (hretQ Tryd.prog Tryd.f70.results.toList Q) (([a0, a1] : List HV) ++ List.replicate (Tryd.f70.ntmps - 2) (.lit undef)) s | none => False) = c70 a0 a1 s Q := by kernel_rfl
theorem HC70 {a0 a1 : HV} {s : HS} {Q : HV → HS → Prop} (h : c70 a0 a1 s Q) : HC Tryd.prog 70 [a0, a1] s Q := HC_by Tryd.func70 (by have := c70_eq a0 a1 s Q; exact this.mpr h)
/-- slices.insertionSortCmpFunc[cordwain/assign.Topic] -/
def c94 (a0 a1 a2 a3 : HV) (s : HS) (Q : HV → HS → Prop) : Prop :=
  bindO (vBin .add a1 (.lit (.int .i64 1))) fun x1 => HLoop (fun y3 s4 K2 => bindO (vBin .lss (y3.headD .junk) a2) fun x5 => hcond x5 (HLoop (fun y7 s8 K6 => Join (fun K9 => bindO (vBin .gtr (y7.headD .junk) a1) fun x12 => hcond x12 (bindO (vIdx 2 a0 (y7.headD .junk)) fun x13 => bindO (vLoad s8 x13 2 true) fun x14 => bindO (vBin .sub (y7.headD .junk) (.lit (.int .i64 1))) fun x15 => bindO (vIdx 2 a0 x15) fun x16 => bindO (vLoad s8 x16 2 true) fun x17 => hcall Tryd.prog a3 [x14, x17] s8 (fun r18 s19 => bindO (vBin .lss r18 (.lit (.int .i64 0))) fun x20 => K9 [x20] s19)) (K9 [(.lit (.bool false))] s8)) (fun y10 s11 => hcond (y10.headD .junk) (bindO (vBin .sub (y7.headD .junk) (.lit (.int .i64 1))) fun x21 => bindO (vBin .sub (y7.headD .junk) (.lit (.int .i64 1))) fun x22 => bindO (vIdx 2 a0 x22) fun x23 => bindO (vLoad s11 x23 2 true) fun x24 => bindO (vIdx 2 a0 (y7.headD .junk)) fun x25 => bindO (vLoad s11 x25 2 true) fun x26 => bindO (vIdx 2 a0 (y7.headD .junk)) fun x27 => hStore s11 x27 x24 2 (fun s28 => bindO (vIdx 2 a0 x21) fun x29 => hStore s28 x29 x26 2 (fun s30 => bindO (vBin .sub (y7.headD .junk) (.lit (.int .i64 1))) fun x31 => K6 [x31] s30))) (bindO (vBin .add (y3.headD .junk) (.lit (.int .i64 1))) fun x32 => K2 [x32] s11))) [(y3.headD .junk)] s4) (Q (.tup []) s4)) [x1] s
theorem c94_eq (a0 a1 a2 a3 : HV) (s : HS) (Q : HV → HS → Prop) : (match Tryd.f94.body with | some c => hwp Tryd.prog (fun p => if p = 6 then some [8] else if p = 402 then some [9] else if p = 1608 then some [34] else none) false 1 c (hretQ Tryd.prog Tryd.f94.results.toList Q) (([a0, a1, a2, a3] : List HV) ++ List.replicate (Tryd.f94.ntmps - 4) (.lit undef)) s | none => False) = c94 a0 a1 a2 a3 s Q := by kernel_rfl
theorem HC94 {a0 a1 a2 a3 : HV} {s : HS} {Q : HV → HS → Prop} (h : c94 a0 a1 a2 a3 s Q) : HC Tryd.prog 94 [a0, a1, a2, a3] s Q := HC_by Tryd.func94 (by have := c94_eq a0 a1 a2 a3 s Q; exact this.mpr h)
/-- slices.swapRangeCmpFunc[cordwain/assign.Topic] -/
def c100 (a0 a1 a2 a3 a4 : HV) (s : HS) (Q : HV → HS → Prop) : Prop :=
  HLoop (fun y2 s3 K1 => bindO (vBin .lss (y2.headD .junk) a3) fun x4 => hcond x4 (bindO (vBin .add a1 (y2.headD .junk)) fun x5 => bindO (vBin .add a2 (y2.headD .junk)) fun x6 => bindO (vBin .add a2 (y2.headD .junk)) fun x7 => bindO (vIdx 2 a0 x7) fun x8 => bindO (vLoad s3 x8 2 true) fun x9 => bindO (vBin .add a1 (y2.headD .junk)) fun x10 => bindO (vIdx 2 a0 x10) fun x11 => bindO (vLoad s3 x11 2 true) fun x12 => bindO (vIdx 2 a0 x5) fun x13 => hStore s3 x13 x9 2 (fun s14 => bindO (vIdx 2 a0 x6) fun x15 => hStore s14 x15 x12 2 (fun s16 => bindO (vBin .add (y2.headD .junk) (.lit (.int .i64 1))) fun x17 => K1 [x17] s16))) (Q (.tup []) s3)) [(.lit (.int .i64 0))] s
theorem c100_eq (a0 a1 a2 a3 a4 : HV) (s : HS) (Q : HV → HS → Prop) : (match Tryd.f100.body with | some c => hwp Tryd.prog (fun p => if p = 6 then some [10] else none) false 1 c (hretQ Tryd.prog Tryd.f100.results.toList Q) (([a0, a1, a2, a3, a4] : List HV) ++ List.replicate (Tryd.f100.ntmps - 5) (.lit undef)) s | none => False) = c100 a0 a1 a2 a3 a4 s Q := by kernel_rfl
theorem HC100 {a0 a1 a2 a3 a4 : HV} {s : HS} {Q : HV → HS → Prop} (h : c100 a0 a1 a2 a3 a4 s Q) : HC Tryd.prog 100 [a0, a1, a2, a3, a4] s Q := HC_by Tryd.func100 (by have := c100_eq a0 a1 a2 a3 a4 s Q; exact this.mpr h)
/-- slices.rotateCmpFunc[cordwain/assign.Topic] -/
def c98 (a0 a1 a2 a3 a4 : HV) (s : HS) (Q : HV → HS → Prop) : Prop :=
  bindO (vBin .sub a2 a1) fun x1 => bindO (vBin .sub a3 a2) fun x2 => HLoop (fun y4 s5 K3 => bindO (vCmp (Tryd.prog.underlying 3) .neq (y4.headD .junk) (y4.tail.headD .junk)) fun x6 => hcond x6 (bindO (vBin .gtr (y4.headD .junk) (y4.tail.headD .junk)) fun x7 => hcond x7 (bindO (vBin .sub a2 (y4.headD .junk)) fun x8 => HC Tryd.prog 100 [a0, x8, a2, (y4.tail.headD .junk), a4] s5 (fun r9 s10 => bindO (vBin .sub (y4.headD .junk) (y4.tail.headD .junk)) fun x11 => K3 [x11, (y4.tail.headD .junk)] s10)) (bindO (vBin .sub a2 (y4.headD .junk)) fun x12 => bindO (vBin .add a2 (y4.tail.headD .junk)) fun x13 => bindO (vBin .sub x13 (y4.headD .junk)) fun x14 => HC Tryd.prog 100 [a0, x12, x14, (y4.headD .junk), a4] s5 (fun r15 s16 => bindO (vBin .sub (y4.tail.headD .junk) (y4.headD .junk)) fun x17 => K3 [(y4.headD .junk), x17] s16))) (bindO (vBin .sub a2 (y4.headD .junk)) fun x18 => HC Tryd.prog 100 [a0, x18, a2, (y4.headD .junk), a4] s5 (fun r19 s20 => Q (.tup []) s20))) [x1, x2] s
theorem c98_eq (a0 a1 a2 a3 a4 : HV) (s : HS) (Q : HV → HS → Prop) : (match Tryd.f98.body with | some c => hwp Tryd.prog (fun p => if p = 28 then some [10, 11] else none) false 1 c (hretQ Tryd.prog Tryd.f98.results.toList Q) (([a0, a1, a2, a3, a4] : List HV) ++ List.replicate (Tryd.f98.ntmps - 5) (.lit undef)) s | none => False) = c98 a0 a1 a2 a3 a4 s Q := by kernel_rfl
theorem HC98 {a0 a1 a2 a3 a4 : HV} {s : HS} {Q : HV → HS → Prop} (h : c98 a0 a1 a2 a3 a4 s Q) : HC Tryd.prog 98 [a0, a1, a2, a3, a4] s Q := HC_by Tryd.func98 (by have := c98_eq a0 a1 a2 a3 a4 s Q; exact this.mpr h)
/-- slices.symMergeCmpFunc[cordwain/assign.Topic] -/
def c95 (a0 a1 a2 a3 a4 : HV) (s : HS) (Q : HV → HS → Prop) : Prop :=
  bindO (vBin .sub a2 a1) fun x1 => bindO (vCmp (Tryd.prog.underlying 3) .eql x1 (.lit (.int .i64 1))) fun x2 => hcond x2 (HLoop (fun y4 s5 K3 => bindO (vBin .lss (y4.headD .junk) (y4.tail.headD .junk)) fun x6 => hcond x6 (bindO (vBin .add (y4.headD .junk) (y4.tail.headD .junk)) fun x7 => bindO (vToInt .u64 x7) fun x8 => bindO (vBin .shr x8 (.lit (.int .u64 1))) fun x9 => bindO (vToInt .i64 x9) fun x10 => bindO (vIdx 2 a0 x10) fun x11 => bindO (vLoad s5 x11 2 true) fun x12 => bindO (vIdx 2 a0 a1) fun x13 => bindO (vLoad s5 x13 2 true) fun x14 => hcall Tryd.prog a4 [x12, x14] s5 (fun r15 s16 => bindO (vBin .lss r15 (.lit (.int .i64 0))) fun x17 => hcond x17 (bindO (vBin .add x10 (.lit (.int .i64 1))) fun x18 => K3 [x18, (y4.tail.headD .junk)] s16) (K3 [(y4.headD .junk), x10] s16))) (HLoop (fun y20 s21 K19 => bindO (vBin .sub (y4.headD .junk) (.lit (.int .i64 1))) fun x22 => bindO (vBin .lss (y20.headD .junk) x22) fun x23 => hcond x23 (bindO (vBin .add (y20.headD .junk) (.lit (.int .i64 1))) fun x24 => bindO (vBin .add (y20.headD .junk) (.lit (.int .i64 1))) fun x25 => bindO (vIdx 2 a0 x25) fun x26 => bindO (vLoad s21 x26 2 true) fun x27 => bindO (vIdx 2 a0 (y20.headD .junk)) fun x28 => bindO (vLoad s21 x28 2 true) fun x29 => bindO (vIdx 2 a0 (y20.headD .junk)) fun x30 => hStore s21 x30 x27 2 (fun s31 => bindO (vIdx 2 a0 x24) fun x32 => hStore s31 x32 x29 2 (fun s33 => bindO (vBin .add (y20.headD .junk) (.lit (.int .i64 1))) fun x34 => K19 [x34] s33))) (Q (.tup []) s21)) [a1] s5)) [a2, a3] s) (bindO (vBin .sub a3 a2) fun x35 => bindO (vCmp (Tryd.prog.underlying 3) .eql x35 (.lit (.int .i64 1))) fun x36 => hcond x36 (HLoop (fun y38 s39 K37 => bindO (vBin .lss (y38.headD .junk) (y38.tail.headD .junk)) fun x40 => hcond x40 (bindO (vBin .add (y38.headD .junk) (y38.tail.headD .junk)) fun x41 => bindO (vToInt .u64 x41) fun x42 => bindO (vBin .shr x42 (.lit (.int .u64 1))) fun x43 => bindO (vToInt .i64 x43) fun x44 => bindO (vIdx 2 a0 a2) fun x45 => bindO (vLoad s39 x45 2 true) fun x46 => bindO (vIdx 2 a0 x44) fun x47 => bindO (vLoad s39 x47 2 true) fun x48 => hcall Tryd.prog a4 [x46, x48] s39 (fun r49 s50 => bindO (vBin .lss r49 (.lit (.int .i64 0))) fun x51 => bindO (vUn .not x51) fun x52 => hcond x52 (bindO (vBin .add x44 (.lit (.int .i64 1))) fun x53 => K37 [x53, (y38.tail.headD .junk)] s50) (K37 [(y38.headD .junk), x44] s50))) (HLoop (fun y55 s56 K54 => bindO (vBin .gtr (y55.headD .junk) (y38.headD .junk)) fun x57 => hcond x57 (bindO (vBin .sub (y55.headD .junk) (.lit (.int .i64 1))) fun x58 => bindO (vBin .sub (y55.headD .junk) (.lit (.int .i64 1))) fun x59 => bindO (vIdx 2 a0 x59) fun x60 => bindO (vLoad s56 x60 2 true) fun x61 => bindO (vIdx 2 a0 (y55.headD .junk)) fun x62 => bindO (vLoad s56 x62 2 true) fun x63 => bindO (vIdx 2 a0 (y55.headD .junk)) fun x64 => hStore s56 x64 x61 2 (fun s65 => bindO (vIdx 2 a0 x58) fun x66 => hStore s65 x66 x63 2 (fun s67 => bindO (vBin .sub (y55.headD .junk) (.lit (.int .i64 1))) fun x68 => K54 [x68] s67))) (Q (.tup []) s56)) [a2] s39)) [a1, a2] s) (bindO (vBin .add a1 a3) fun x69 => bindO (vToInt .u64 x69) fun x70 => bindO (vBin .shr x70 (.lit (.int .u64 1))) fun x71 => bindO (vToInt .i64 x71) fun x72 => bindO (vBin .add x72 a2) fun x73 => Join (fun K74 => bindO (vBin .gtr a2 x72) fun x77 => hcond x77 (bindO (vBin .sub x73 a3) fun x78 => K74 [x78, x72] s) (K74 [a1, a2] s)) (fun y75 s76 => bindO (vBin .sub x73 (.lit (.int .i64 1))) fun x79 => HLoop (fun y81 s82 K80 => bindO (vBin .lss (y81.headD .junk) (y81.tail.headD .junk)) fun x83 => hcond x83 (bindO (vBin .add (y81.headD .junk) (y81.tail.headD .junk)) fun x84 => bindO (vToInt .u64 x84) fun x85 => bindO (vBin .shr x85 (.lit (.int .u64 1))) fun x86 => bindO (vToInt .i64 x86) fun x87 => bindO (vBin .sub x79 x87) fun x88 => bindO (vIdx 2 a0 x88) fun x89 => bindO (vLoad s82 x89 2 true) fun x90 => bindO (vIdx 2 a0 x87) fun x91 => bindO (vLoad s82 x91 2 true) fun x92 => hcall Tryd.prog a4 [x90, x92] s82 (fun r93 s94 => bindO (vBin .lss r93 (.lit (.int .i64 0))) fun x95 => bindO (vUn .not x95) fun x96 => hcond x96 (bindO (vBin .add x87 (.lit (.int .i64 1))) fun x97 => K80 [x97, (y81.tail.headD .junk)] s94) (K80 [(y81.headD .junk), x87] s94))) (bindO (vBin .sub x73 (y81.headD .junk)) fun x98 => Join (fun K99 => Join (fun K102 => bindO (vBin .lss (y81.headD .junk) a2) fun x105 => hcond x105 (bindO (vBin .lss a2 x98) fun x106 => K102 [x106] s82) (K102 [(.lit (.bool false))] s82)) (fun y103 s104 => hcond (y103.headD .junk) (HC Tryd.prog 98 [a0, (y81.headD .junk), a2, x98, a4] s104 (fun r107 s108 => K99 [] s108)) (K99 [] s104))) (fun y100 s101 => Join (fun K109 => Join (fun K112 => bindO (vBin .lss a1 (y81.headD .junk)) fun x115 => hcond x115 (bindO (vBin .lss (y81.headD .junk) x72) fun x116 => K112 [x116] s101) (K112 [(.lit (.bool false))] s101)) (fun y113 s114 => hcond (y113.headD .junk) (HC Tryd.prog 95 [a0, a1, (y81.headD .junk), x72, a4] s114 (fun r117 s118 => K109 [] s118)) (K109 [] s114))) (fun y110 s111 => Join (fun K119 => bindO (vBin .lss x72 x98) fun x122 => hcond x122 (bindO (vBin .lss x98 a3) fun x123 => K119 [x123] s111) (K119 [(.lit (.bool false))] s111)) (fun y120 s121 => hcond (y120.headD .junk) (HC Tryd.prog 95 [a0, x72, x98, a3, a4] s121 (fun r124 s125 => Q (.tup []) s125)) (Q (.tup []) s121)))))) [(y75.headD .junk), (y75.tail.headD .junk)] s76)))
theorem c95_eq (a0 a1 a2 a3 a4 : HV) (s : HS) (Q : HV → HS → Prop) : (match Tryd.f95.body with | some c => hwp Tryd.prog (fun p => if p = 63 then some [20, 21] else if p = 172 then some [10, 11] else if p = 428 then some [14, 15] else if p = 698 then some [13] else if p = 1020 then some [20, 21] else if p = 1023 then some [] else if p = 1722 then some [17] else if p = 2046 then some [185] else if p = 2047 then some [] else if p = 4094 then some [199] else if p = 4095 then some [213] else none) false 1 c (hretQ Tryd.prog Tryd.f95.results.toList Q) (([a0, a1, a2, a3, a4] : List HV) ++ List.replicate (Tryd.f95.ntmps - 5) (.lit undef)) s | none => False) = c95 a0 a1 a2 a3 a4 s Q := by kernel_rfl
theorem HC95 {a0 a1 a2 a3 a4 : HV} {s : HS} {Q : HV → HS → Prop} (h : c95 a0 a1 a2 a3 a4 s Q) : HC Tryd.prog 95 [a0, a1, a2, a3, a4] s Q := HC_by Tryd.func95 (by have := c95_eq a0 a1 a2 a3 a4 s Q; exact this.mpr h)
/-- slices.stableCmpFunc[cordwain/assign.Topic] -/
def c89 (a0 a1 a2 : HV) (s : HS) (Q : HV → HS → Prop) : Prop :=
  HLoop (fun y2 s3 K1 => bindO (vBin .leq (y2.tail.headD .junk) a1) fun x4 => hcond x4 (HC Tryd.prog 94 [a0, (y2.headD .junk), (y2.tail.headD .junk), a2] s3 (fun r5 s6 => bindO (vBin .add (y2.tail.headD .junk) (.lit (.int .i64 20))) fun x7 => K1 [(y2.tail.headD .junk), x7] s6)) (HC Tryd.prog 94 [a0, (y2.headD .junk), a1, a2] s3 (fun r8 s9 => HLoop (fun y11 s12 K10 => bindO (vBin .lss (y11.headD .junk) a1) fun x13 => hcond x13 (bindO (vBin .mul (.lit (.int .i64 2)) (y11.headD .junk)) fun x14 => HLoop (fun y16 s17 K15 => bindO (vBin .leq (y16.tail.headD .junk) a1) fun x18 => hcond x18 (bindO (vBin .add (y16.headD .junk) (y11.headD .junk)) fun x19 => HC Tryd.prog 95 [a0, (y16.headD .junk), x19, (y16.tail.headD .junk), a2] s17 (fun r20 s21 => bindO (vBin .mul (.lit (.int .i64 2)) (y11.headD .junk)) fun x22 => bindO (vBin .add (y16.tail.headD .junk) x22) fun x23 => K15 [(y16.tail.headD .junk), x23] s21)) (Join (fun K24 => bindO (vBin .add (y16.headD .junk) (y11.headD .junk)) fun x27 => bindO (vBin .lss x27 a1) fun x28 => hcond x28 (HC Tryd.prog 95 [a0, (y16.headD .junk), x27, a1, a2] s17 (fun r29 s30 => K24 [] s30)) (K24 [] s17)) (fun y25 s26 => bindO (vBin .mul (y11.headD .junk) (.lit (.int .i64 2))) fun x31 => K10 [x31] s26))) [(.lit (.int .i64 0)), x14] s12) (Q (.tup []) s12)) [(.lit (.int .i64 20))] s9))) [(.lit (.int .i64 0)), (.lit (.int .i64 20))] s
theorem c89_eq (a0 a1 a2 : HV) (s : HS) (Q : HV → HS → Prop) : (match Tryd.f89.body with | some c => hwp Tryd.prog (fun p => if p = 28 then some [7, 8] else if p = 62 then some [6] else if p = 1995 then some [] else if p = 3988 then some [7, 8] else none) false 1 c (hretQ Tryd.prog Tryd.f89.results.toList Q) (([a0, a1, a2] : List HV) ++ List.replicate (Tryd.f89.ntmps - 3) (.lit undef)) s | none => False) = c89 a0 a1 a2 s Q := by kernel_rfl
theorem HC89 {a0 a1 a2 : HV} {s : HS} {Q : HV → HS → Prop} (h : c89 a0 a1 a2 s Q) : HC Tryd.prog 89 [a0, a1, a2] s Q := HC_by Tryd.func89 (by have := c89_eq a0 a1 a2 s Q; exact this.mpr h)
/-- slices.SortStableFunc[[]cordwain/assign.Topic,cordwain/assign.Topic] -/
def c75 (a0 a1 : HV) (s : HS) (Q : HV → HS → Prop) : Prop :=
  bindO (vLenT (Tryd.prog.underlying 29) s a0) fun x1 => HC Tryd.prog 89 [a0, x1, a1] s (fun r2 s3 => Q (.tup []) s3)
theorem c75_eq (a0 a1 : HV) (s : HS) (Q : HV → HS → Prop) : (match Tryd.f75.body with | some c => hwp Tryd.prog (fun p => none) false 1 c (hretQ Tryd.prog Tryd.f75.results.toList Q) (([a0, a1] : List HV) ++ List.replicate (Tryd.f75.ntmps - 2) (.lit undef)) s | none => False) = c75 a0 a1 s Q := by kernel_rfl
theorem HC75 {a0 a1 : HV} {s : HS} {Q : HV → HS → Prop} (h : c75 a0 a1 s Q) : HC Tryd.prog 75 [a0, a1] s Q := HC_by Tryd.func75 (by have := c75_eq a0 a1 s Q; exact this.mpr h)
/-- cordwain/assign.sorted[cordwain/assign.Topic]$1 -/
def c88 (a0 a1 a2 : HV) (s : HS) (Q : HV → HS → Prop) : Prop :=
  hBox s a0 (fun x1 s2 => hBox s2 a1 (fun x3 s4 => bindO (vLoad s4 a2 1 false) fun x5 => bindO (vLoad s4 x1 2 true) fun x6 => bindO (vLoad s4 a2 1 false) fun x7 => bindO (vLoad s4 x3 2 true) fun x8 => hcall Tryd.prog x5 [x6] s4 (fun r9 s10 => (vLoad s10 x3 2 true = vLoad s4 x3 2 true ∧ (vLoad s10 a2 1 false = vLoad s4 a2 1 false ∧ hcall Tryd.prog x7 [x8] s10 (fun r11 s12 => HC Tryd.prog 77 [r9, r11] s12 (fun r13 s14 => Q r13 s14)))))))
theorem c88_eq (a0 a1 a2 : HV) (s : HS) (Q : HV → HS → Prop) : (match Tryd.f88.body with | some c => hwp Tryd.prog (fun p => none) false 1 c (hretQ Tryd.prog Tryd.f88.results.toList Q) (([a0, a1, a2] : List HV) ++ List.replicate (Tryd.f88.ntmps - 3) (.lit undef)) s | none => False) = c88 a0 a1 a2 s Q := by kernel_rfl
theorem HC88 {a0 a1 a2 : HV} {s : HS} {Q : HV → HS → Prop} (h : c88 a0 a1 a2 s Q) : HC Tryd.prog 88 [a0, a1, a2] s Q := HC_by Tryd.func88 (by have := c88_eq a0 a1 a2 s Q; exact this.mpr h)
/-- cordwain/assign.open$3 -/
def c73 (a0 : HV) (s : HS) (Q : HV → HS → Prop) : Prop :=
  hBox s a0 (fun x1 s2 => bindO (vField 0 x1) fun x3 => bindO (vLoad s2 x3 1 false) fun x4 => Q x4 s2)
theorem c73_eq (a0 : HV) (s : HS) (Q : HV → HS → Prop) : (match Tryd.f73.body with | some c => hwp Tryd.prog (fun p => none) false 1 c (hretQ Tryd.prog Tryd.f73.results.toList Q) (([a0] : List HV) ++ List.replicate (Tryd.f73.ntmps - 1) (.lit undef)) s | none => False) = c73 a0 s Q := by kernel_rfl
theorem HC73 {a0 : HV} {s : HS} {Q : HV → HS → Prop} (h : c73 a0 s Q) : HC Tryd.prog 73 [a0] s Q := HC_by Tryd.func73 (by have := c73_eq a0 s Q; exact this.mpr h)
/-- cordwain/assign.sorted[cordwain/assign.Topic] -/
def c72 (a0 a1 : HV) (s : HS) (Q : HV → HS → Prop) : Prop :=
  hBox s a1 (fun x1 s2 => HC Tryd.prog 38 [a0] s2 (fun r3 s4 => HC Tryd.prog 75 [r3, (.func (.func 88) [x1])] s4 (fun r5 s6 => HLoop (fun y8 s9 K7 => bindO (vLenT (Tryd.prog.underlying 29) s9 r3) fun x10 => bindO (vBin .lss (y8.headD .junk) x10) fun x11 => hcond x11 (bindO (vLoad s9 x1 1 false) fun x12 => bindO (vIdx 2 r3 (y8.headD .junk)) fun x13 => bindO (vLoad s9 x13 2 true) fun x14 => bindO (vLoad s9 x1 1 false) fun x15 => bindO (vBin .sub (y8.headD .junk) (.lit (.int .i64 1))) fun x16 => bindO (vIdx 2 r3 x16) fun x17 => bindO (vLoad s9 x17 2 true) fun x18 => hcall Tryd.prog x12 [x14] s9 (fun r19 s20 => (vLoad s20 x17 2 true = vLoad s9 x17 2 true ∧ (vLoad s20 x1 1 false = vLoad s9 x1 1 false ∧ hcall Tryd.prog x15 [x18] s20 (fun r21 s22 => bindO (vCmp (Tryd.prog.underlying 9) .eql r19 r21) fun x23 => hcond x23 (Q (.tup [(.lit (.slice none 0 0)), (.lit (.bool false))]) s22) (bindO (vBin .add (y8.headD .junk) (.lit (.int .i64 1))) fun x24 => K7 [x24] s22)))))) (Q (.tup [r3, (.lit (.bool true))]) s9)) [(.lit (.int .i64 1))] s6)))
theorem c72_eq (a0 a1 : HV) (s : HS) (Q : HV → HS → Prop) : (match Tryd.f72.body with | some c => hwp Tryd.prog (fun p => if p = 122 then some [7] else none) false 1 c (hretQ Tryd.prog Tryd.f72.results.toList Q) (([a0, a1] : List HV) ++ List.replicate (Tryd.f72.ntmps - 2) (.lit undef)) s | none => False) = c72 a0 a1 s Q := by kernel_rfl
theorem HC72 {a0 a1 : HV} {s : HS} {Q : HV → HS → Prop} (h : c72 a0 a1 s Q) : HC Tryd.prog 72 [a0, a1] s Q := HC_by Tryd.func72 (by have := c72_eq a0 a1 s Q; exact this.mpr h)
/-- cordwain/assign.open -/
def c60 (a0 a1 : HV) (s : HS) (Q : HV → HS → Prop) : Prop :=
  hNew s (.cells [.lit (.slice none 0 0), .lit (.slice none 0 0), .lit (.slice none 0 0)]) (fun id => .ptr id 0) (fun x1 s2 => HC Tryd.prog 68 [a1, (.func (.func 69) [])] s2 (fun r3 s4 => hcond r3 (bindO (vLoad s4 x1 3 true) fun x5 => hStore s4 x1 x5 3 (fun s6 => bindO (vLoad s6 x1 3 true) fun x7 => Q (.tup [x7, (.lit (.bool false))]) s6)) (HC Tryd.prog 70 [a0, (.func (.func 71) [])] s4 (fun r8 s9 => bindO (vExtract r8 0) fun x10 => bindO (vExtract r8 1) fun x11 => HC Tryd.prog 72 [a1, (.func (.func 73) [])] s9 (fun r12 s13 => bindO (vExtract r12 0) fun x14 => bindO (vExtract r12 1) fun x15 => bindO (vMk [(0, 1), (1, 1), (2, 1)] [.lit (.slice none 0 0), .lit (.slice none 0 0), .lit (.slice none 0 0)] [(0, x10), (1, x14)]) fun x16 => hStore s13 x1 x16 3 (fun s17 => bindO (vLenT (Tryd.prog.underlying 92) s17 x10) fun x18 => HLoop (fun y20 s21 K19 => bindO (vBin .lss (y20.headD .junk) x18) fun x22 => hcond x22 (bindO (vIdx 2 x10 (y20.headD .junk)) fun x23 => bindO (vLoad s21 x23 2 true) fun x24 => hNew s21 (.cells [.lit (.string .empty), .lit (.slice none 0 0)]) (fun id => .ptr id 0) (fun x25 s26 => hStore s26 x25 x24 2 (fun s27 => bindO (vField 2 x1) fun x28 => bindO (vLoad s27 x28 1 false) fun x29 => bindO (vField 0 x25) fun x30 => bindO (vLoad s27 x30 1 false) fun x31 => bindO (vMk [(0, 1), (1, 1)] [.lit (.string .empty), .lit (.slice none 0 0)] [(0, x31)]) fun x32 => hBS s27 2 1 [.lit (.string .empty), .lit (.slice none 0 0)] [(0, x32)] (fun x33 s34 => hAppend s34 2 40 x29 x33 (fun x35 s36 => bindO (vField 2 x1) fun x37 => hStore s36 x37 x35 1 (fun s38 => bindO (vBin .add (y20.headD .junk) (.lit (.int .i64 1))) fun x39 => K19 [x39] s38)))))) (bindO (vLoad s21 x1 3 true) fun x40 => hcond x11 (hStore s21 x1 x40 3 (fun s41 => bindO (vLoad s41 x1 3 true) fun x42 => Q (.tup [x42, x15]) s41)) (hStore s21 x1 x40 3 (fun s43 => bindO (vLoad s43 x1 3 true) fun x44 => Q (.tup [x44, (.lit (.bool false))]) s43)))) [(.lit (.int .i64 0))] s17))))))
theorem c60_eq (a0 a1 : HV) (s : HS) (Q : HV → HS → Prop) : (match Tryd.f60.body with | some c => hwp Tryd.prog (fun p => if p = 506 then some [29] else none) false 1 c (hretQ Tryd.prog Tryd.f60.results.toList Q) (([a0, a1] : List HV) ++ List.replicate (Tryd.f60.ntmps - 2) (.lit undef)) s | none => False) = c60 a0 a1 s Q := by kernel_rfl
theorem HC60 {a0 a1 : HV} {s : HS} {Q : HV → HS → Prop} (h : c60 a0 a1 s Q) : HC Tryd.prog 60 [a0, a1] s Q := HC_by Tryd.func60 (by have := c60_eq a0 a1 s Q; exact this.mpr h)
/-- cordwain/assign.Slots -/
def c61 (a0 : HV) (s : HS) (Q : HV → HS → Prop) : Prop :=
  hBox s a0 (fun x1 s2 => Q (.func (.func 74) [x1]) s2)
theorem c61_eq (a0 : HV) (s : HS) (Q : HV → HS → Prop) : (match Tryd.f61.body with | some c => hwp Tryd.prog (fun p => none) false 1 c (hretQ Tryd.prog Tryd.f61.results.toList Q) (([a0] : List HV) ++ List.replicate (Tryd.f61.ntmps - 1) (.lit undef)) s | none => False) = c61 a0 s Q := by kernel_rfl
theorem HC61 {a0 : HV} {s : HS} {Q : HV → HS → Prop} (h : c61 a0 s Q) : HC Tryd.prog 61 [a0] s Q := HC_by Tryd.func61 (by have := c61_eq a0 s Q; exact this.mpr h)
/-- slices.Index[[]string,string] -/
def c78 (a0 a1 : HV) (s : HS) (Q : HV → HS → Prop) : Prop :=
  bindO (vLenT (Tryd.prog.underlying 32) s a0) fun x1 => HLoop (fun y3 s4 K2 => bindO (vBin .lss (y3.headD .junk) x1) fun x5 => hcond x5 (bindO (vIdx 1 a0 (y3.headD .junk)) fun x6 => bindO (vLoad s4 x6 1 false) fun x7 => bindO (vCmp (Tryd.prog.underlying 9) .eql a1 x7) fun x8 => hcond x8 (Q (y3.headD .junk) s4) (bindO (vBin .add (y3.headD .junk) (.lit (.int .i64 1))) fun x9 => K2 [x9] s4)) (Q (.lit (.int .i64 (-1))) s4)) [(.lit (.int .i64 0))] s
theorem c78_eq (a0 a1 : HV) (s : HS) (Q : HV → HS → Prop) : (match Tryd.f78.body with | some c => hwp Tryd.prog (fun p => if p = 26 then some [8] else none) false 1 c (hretQ Tryd.prog Tryd.f78.results.toList Q) (([a0, a1] : List HV) ++ List.replicate (Tryd.f78.ntmps - 2) (.lit undef)) s | none => False) = c78 a0 a1 s Q := by kernel_rfl
theorem HC78 {a0 a1 : HV} {s : HS} {Q : HV → HS → Prop} (h : c78 a0 a1 s Q) : HC Tryd.prog 78 [a0, a1] s Q := HC_by Tryd.func78 (by have := c78_eq a0 a1 s Q; exact this.mpr h)
/-- slices.Contains[[]string,string] -/
def c62 (a0 a1 : HV) (s : HS) (Q : HV → HS → Prop) : Prop :=
  HC Tryd.prog 78 [a0, a1] s (fun r1 s2 => bindO (vBin .geq r1 (.lit (.int .i64 0))) fun x3 => Q x3 s2)
theorem c62_eq (a0 a1 : HV) (s : HS) (Q : HV → HS → Prop) : (match Tryd.f62.body with | some c => hwp Tryd.prog (fun p => none) false 1 c (hretQ Tryd.prog Tryd.f62.results.toList Q) (([a0, a1] : List HV) ++ List.replicate (Tryd.f62.ntmps - 2) (.lit undef)) s | none => False) = c62 a0 a1 s Q := by kernel_rfl
theorem HC62 {a0 a1 : HV} {s : HS} {Q : HV → HS → Prop} (h : c62 a0 a1 s Q) : HC Tryd.prog 62 [a0, a1] s Q := HC_by Tryd.func62 (by have := c62_eq a0 a1 s Q; exact this.mpr h)
/-- (cordwain/assign.hall).gives -/
def c63 (a0 a1 a2 : HV) (s : HS) (Q : HV → HS → Prop) : Prop :=
  hBox s a0 (fun x1 s2 => hBox s2 a2 (fun x3 s4 => bindO (vField 2 x1) fun x5 => bindO (vLoad s4 x5 1 false) fun x6 => bindO (vField 2 x1) fun x7 => bindO (vLoad s4 x7 1 false) fun x8 => bindO (vIdx 2 x8 a1) fun x9 => bindO (vField 1 x9) fun x10 => bindO (vLoad s4 x10 1 false) fun x11 => bindO (vLoad s4 x3 2 true) fun x12 => hBS s4 2 1 [.lit (.string .empty), .lit (.int .i64 0)] [(0, x12)] (fun x13 s14 => (vLoad s14 x10 1 false = vLoad s4 x10 1 false ∧ (vLoad s14 x7 1 false = vLoad s4 x7 1 false ∧ (vLoad s14 x5 1 false = vLoad s4 x5 1 false ∧ hAppend s14 2 24 x11 x13 (fun x15 s16 => (vLoad s16 x5 1 false = vLoad s14 x5 1 false ∧ bindO (vIdx 2 x6 a1) fun x17 => bindO (vField 1 x17) fun x18 => hStore s16 x18 x15 1 (fun s19 => Q (.tup []) s19)))))))))
theorem c63_eq (a0 a1 a2 : HV) (s : HS) (Q : HV → HS → Prop) : (match Tryd.f63.body with | some c => hwp Tryd.prog (fun p => none) false 1 c (hretQ Tryd.prog Tryd.f63.results.toList Q) (([a0, a1, a2] : List HV) ++ List.replicate (Tryd.f63.ntmps - 3) (.lit undef)) s | none => False) = c63 a0 a1 a2 s Q := by kernel_rfl
theorem HC63 {a0 a1 a2 : HV} {s : HS} {Q : HV → HS → Prop} (h : c63 a0 a1 a2 s Q) : HC Tryd.prog 63 [a0, a1, a2] s Q := HC_by Tryd.func63 (by have := c63_eq a0 a1 a2 s Q; exact this.mpr h)
/-- cordwain/assign.Round -/
def c52 (a0 a1 : HV) (s : HS) (Q : HV → HS → Prop) : Prop :=
  HC Tryd.prog 60 [a0, a1] s (fun r1 s2 => bindO (vExtract r1 0) fun x3 => bindO (vExtract r1 1) fun x4 => hNew s2 (.cells [.lit (.slice none 0 0), .lit (.slice none 0 0), .lit (.slice none 0 0)]) (fun id => .ptr id 0) (fun x5 s6 => hStore s6 x5 x3 3 (fun s7 => bindO (vUn .not x4) fun x8 => hcond x8 (Q (.tup [(.lit (.slice none 0 0)), (.lit (.int .i64 1))]) s7) (hNew s7 (.cells [.lit (.int .i64 0)]) (fun id => .ptr id 0) (fun x9 s10 => hStore s10 x9 (.lit (.int .i64 0)) 1 (fun s11 => Join (fun K12 => bindO (vField 1 x5) fun x15 => bindO (vLoad s11 x15 1 false) fun x16 => HC Tryd.prog 61 [x16] s11 (fun r17 s18 => HRange Tryd.prog r17 1 [a0, a1, (.lit undef), (.lit undef), (.lit (.slice none 0 0)), (.lit (.int .i64 0)), x5, x4, x9, (.lit undef), (.lit undef), (.lit undef), r1, a0, a1, r1, x3, x4, x4, (.lit (.bool false)), x15, x16, r17, (.lit undef), (.lit undef), (.lit undef), (.lit undef), (.lit undef), (.lit undef), (.lit undef), (.lit undef), (.lit undef), (.lit undef), (.lit undef), (.lit undef), (.lit undef), (.lit undef), (.lit undef), (.lit undef), (.lit undef), (.lit undef), (.lit undef), (.lit undef), (.lit undef), (.lit undef), (.lit undef), (.lit undef), (.lit undef), (.lit undef), (.lit undef), (.lit undef), (.lit undef), (.lit undef), (.lit undef), (.lit undef)] (fun B19 y20 s21 K22 => hNew s21 (.cells [.lit (.string .empty), .lit (.int .i64 0)]) (fun id => .ptr id 0) (fun x23 s24 => hStore s24 x23 (y20.headD .junk) 2 (fun s25 => B19 s25 fun s26 => bindO (vField 0 x5) fun x27 => bindO (vLoad s26 x27 1 false) fun x28 => bindO (vLenT (Tryd.prog.underlying 92) s26 x28) fun x29 => HLoop (fun y31 s32 K30 => bindO (vBin .lss (y31.headD .junk) x29) fun x33 => hcond x33 (bindO (vLoad s32 x9 1 false) fun x34 => bindO (vBin .add x34 (y31.headD .junk)) fun x35 => bindO (vField 0 x5) fun x36 => bindO (vLoad s32 x36 1 false) fun x37 => bindO (vLenT (Tryd.prog.underlying 92) s32 x37) fun x38 => bindO (vBin .rem x35 x38) fun x39 => bindO (vField 0 x5) fun x40 => bindO (vLoad s32 x40 1 false) fun x41 => bindO (vIdx 2 x41 x39) fun x42 => bindO (vField 1 x42) fun x43 => bindO (vLoad s32 x43 1 false) fun x44 => bindO (vField 0 x23) fun x45 => bindO (vLoad s32 x45 1 false) fun x46 => HC Tryd.prog 62 [x44, x46] s32 (fun r47 s48 => hcond r47 (bindO (vLoad s48 x5 3 true) fun x49 => bindO (vLoad s48 x23 2 true) fun x50 => HC Tryd.prog 63 [x49, x39, x50] s48 (fun r51 s52 => bindO (vBin .add x39 (.lit (.int .i64 1))) fun x53 => hStore s52 x9 x53 1 (fun s54 => K22 .normal s54))) (bindO (vBin .add (y31.headD .junk) (.lit (.int .i64 1))) fun x55 => K30 [x55] s48))) (K22 .normal s32)) [(.lit (.int .i64 0))] s26))) s18 (fun s56 => K12 [] s56) (fun s57 => Q (.tup [(.lit (.slice none 0 0)), (.lit (.int .i64 0))]) s57) (fun i59 s58 => if i59 = 0 then K12 [] s58 else False))) (fun y13 s14 => bindO (vField 2 x5) fun x60 => bindO (vLoad s14 x60 1 false) fun x61 => Q (.tup [x61, (.lit (.int .i64 0))]) s14)))))))
theorem c52_eq (a0 a1 : HV) (s : HS) (Q : HV → HS → Prop) : (match Tryd.f52.body with | some c => hwp Tryd.prog (fun p => if p = 111 then some [] else if p = 14250 then some [27] else none) false 1 c (hretQ Tryd.prog Tryd.f52.results.toList Q) (([a0, a1] : List HV) ++ List.replicate (Tryd.f52.ntmps - 2) (.lit undef)) s | none => False) = c52 a0 a1 s Q := by kernel_rfl
theorem HC52 {a0 a1 : HV} {s : HS} {Q : HV → HS → Prop} (h : c52 a0 a1 s Q) : HC Tryd.prog 52 [a0, a1] s Q := HC_by Tryd.func52 (by have := c52_eq a0 a1 s Q; exact this.mpr h)
/-- cordwain/assign.Range -/
def c53 (a0 a1 : HV) (s : HS) (Q : HV → HS → Prop) : Prop :=
  HC Tryd.prog 60 [a0, a1] s (fun r1 s2 => bindO (vExtract r1 0) fun x3 => bindO (vExtract r1 1) fun x4 => hNew s2 (.cells [.lit (.slice none 0 0), .lit (.slice none 0 0), .lit (.slice none 0 0)]) (fun id => .ptr id 0) (fun x5 s6 => hStore s6 x5 x3 3 (fun s7 => bindO (vUn .not x4) fun x8 => hcond x8 (Q (.tup [(.lit (.slice none 0 0)), (.lit (.int .i64 1))]) s7) (bindO (vField 1 x5) fun x9 => bindO (vLoad s7 x9 1 false) fun x10 => bindO (vLenT (Tryd.prog.underlying 29) s7 x10) fun x11 => HLoop (fun y13 s14 K12 => bindO (vBin .lss (y13.headD .junk) x11) fun x15 => hcond x15 (bindO (vIdx 2 x10 (y13.headD .junk)) fun x16 => bindO (vLoad s14 x16 2 true) fun x17 => hNew s14 (.cells [.lit (.string .empty), .lit (.int .i64 0)]) (fun id => .ptr id 0) (fun x18 s19 => hStore s19 x18 x17 2 (fun s20 => bindO (vField 0 x5) fun x21 => bindO (vLoad s20 x21 1 false) fun x22 => bindO (vLenT (Tryd.prog.underlying 92) s20 x22) fun x23 => HLoop (fun y25 s26 K24 => bindO (vBin .lss (y25.tail.headD .junk) x23) fun x27 => hcond x27 (Join (fun K28 => bindO (vIdx 2 x22 (y25.tail.headD .junk)) fun x31 => bindO (vLoad s26 x31 2 true) fun x32 => hNew s26 (.cells [.lit (.string .empty), .lit (.slice none 0 0)]) (fun id => .ptr id 0) (fun x33 s34 => hStore s34 x33 x32 2 (fun s35 => bindO (vField 1 x33) fun x36 => bindO (vLoad s35 x36 1 false) fun x37 => bindO (vField 0 x18) fun x38 => bindO (vLoad s35 x38 1 false) fun x39 => HC Tryd.prog 62 [x37, x39] s35 (fun r40 s41 => hcond r40 (hBS s41 1 1 [.lit (.int .i64 0)] [(0, (y25.tail.headD .junk))] (fun x42 s43 => hAppend s43 1 8 (y25.headD .junk) x42 (fun x44 s45 => K28 [x44] s45))) (K28 [(y25.headD .junk)] s41))))) (fun y29 s30 => bindO (vBin .add (y25.tail.headD .junk) (.lit (.int .i64 1))) fun x46 => K24 [(y29.headD .junk), x46] s30)) (bindO (vLenT (Tryd.prog.underlying 98) s26 (y25.headD .junk)) fun x47 => HLoop (fun y49 s50 K48 => bindO (vBin .lss (y49.tail.headD .junk) x47) fun x51 => hcond x51 (bindO (vIdx 1 (y25.headD .junk) (y49.tail.headD .junk)) fun x52 => bindO (vLoad s50 x52 1 false) fun x53 => bindO (vField 1 x18) fun x54 => bindO (vLoad s50 x54 1 false) fun x55 => bindO (vLenT (Tryd.prog.underlying 98) s50 (y25.headD .junk)) fun x56 => bindO (vBin .quo x55 x56) fun x57 => Join (fun K58 => bindO (vField 1 x18) fun x61 => bindO (vLoad s50 x61 1 false) fun x62 => bindO (vLenT (Tryd.prog.underlying 98) s50 (y25.headD .junk)) fun x63 => bindO (vBin .rem x62 x63) fun x64 => bindO (vBin .lss (y49.tail.headD .junk) x64) fun x65 => hcond x65 (bindO (vBin .add x57 (.lit (.int .i64 1))) fun x66 => K58 [x66] s50) (K58 [x57] s50)) (fun y59 s60 => HLoop (fun y68 s69 K67 => bindO (vBin .lss (y68.tail.headD .junk) (y59.headD .junk)) fun x70 => hcond x70 (bindO (vLoad s69 x5 3 true) fun x71 => bindO (vField 0 x18) fun x72 => bindO (vLoad s69 x72 1 false) fun x73 => bindO (vMk [(0, 1), (1, 1)] [.lit (.string .empty), .lit (.int .i64 0)] [(0, x73), (1, (y68.headD .junk))]) fun x74 => HC Tryd.prog 63 [x71, x53, x74] s69 (fun r75 s76 => bindO (vBin .add (y68.headD .junk) (.lit (.int .i64 1))) fun x77 => bindO (vBin .add (y68.tail.headD .junk) (.lit (.int .i64 1))) fun x78 => K67 [x77, x78] s76)) (bindO (vBin .add (y49.tail.headD .junk) (.lit (.int .i64 1))) fun x79 => K48 [(y68.headD .junk), x79] s69)) [(y49.headD .junk), (.lit (.int .i64 0))] s60)) (bindO (vBin .add (y13.headD .junk) (.lit (.int .i64 1))) fun x80 => K12 [x80] s50)) [(.lit (.int .i64 0)), (.lit (.int .i64 0))] s26)) [(.lit (.slice none 0 0)), (.lit (.int .i64 0))] s20))) (bindO (vField 2 x5) fun x81 => bindO (vLoad s14 x81 1 false) fun x82 => Q (.tup [x82, (.lit (.int .i64 0))]) s14)) [(.lit (.int .i64 0))] s7))))
theorem c53_eq (a0 a1 : HV) (s : HS) (Q : HV → HS → Prop) : (match Tryd.f53.body with | some c => hwp Tryd.prog (fun p => if p = 122 then some [28] else if p = 125338 then some [10, 35] else if p = 250686 then some [13, 52] else if p = 1002707 then some [10] else if p = 32087859 then some [16] else if p = 256702878 then some [13, 72] else none) false 1 c (hretQ Tryd.prog Tryd.f53.results.toList Q) (([a0, a1] : List HV) ++ List.replicate (Tryd.f53.ntmps - 2) (.lit undef)) s | none => False) = c53 a0 a1 s Q := by kernel_rfl
theorem HC53 {a0 a1 : HV} {s : HS} {Q : HV → HS → Prop} (h : c53 a0 a1 s Q) : HC Tryd.prog 53 [a0, a1] s Q := HC_by Tryd.func53 (by have := c53_eq a0 a1 s Q; exact this.mpr h)
/-- (*cordwain/group.Group).forms -/
def c32 (a0 : HV) (s : HS) (Q : HV → HS → Prop) : Prop :=
  bindO (vNil a0) fun x1 => bindO (vField 3 x1) fun x2 => bindO (vLoad s x2 1 false) fun x3 => bindO (vCmp (Tryd.prog.underlying 3) .neq x3 (.lit (.int .i64 2))) fun x4 => hcond x4 (Q (.tup []) s) (Join (fun K5 => HC Tryd.prog 34 [a0, (.func (.func 49) [])] s (fun r8 s9 => bindO (vUn .not r8) fun x10 => hcond x10 (HC Tryd.prog 50 [a0] s9 (fun r11 s12 => bindO (vUn .not r11) fun x13 => K5 [x13] s12)) (K5 [(.lit (.bool false))] s9))) (fun y6 s7 => hcond (y6.headD .junk) (Q (.tup []) s7) (HC Tryd.prog 41 [a0, (.func (.func 51) [])] s7 (fun r14 s15 => bindO (vNil a0) fun x16 => bindO (vField 9 x16) fun x17 => bindO (vLoad s15 x17 1 false) fun x18 => bindO (vLenT (Tryd.prog.underlying 66) s15 x18) fun x19 => bindO (vCmp (Tryd.prog.underlying 3) .eql x19 (.lit (.int .i64 0))) fun x20 => hcond x20 (HC Tryd.prog 36 [a0, (.lit (.int .i64 1))] s15 (fun r21 s22 => Q (.tup []) s22)) (bindO (vNil a0) fun x23 => bindO (vField 4 x23) fun x24 => bindO (vLoad s15 x24 1 false) fun x25 => bindO (vBin .add x25 (.lit (.int .i64 1))) fun x26 => bindO (vNil a0) fun x27 => bindO (vField 4 x27) fun x28 => hStore s15 x28 x26 1 (fun s29 => HC Tryd.prog 36 [a0, (.lit (.int .i64 3))] s29 (fun r30 s31 => bindO (vNil a0) fun x32 => bindO (vField 9 x32) fun x33 => bindO (vLoad s31 x33 1 false) fun x34 => bindO (vLenT (Tryd.prog.underlying 66) s31 x34) fun x35 => HLoop (fun y37 s38 K36 => bindO (vBin .lss (y37.tail.headD .junk) x35) fun x39 => hcond x39 (bindO (vIdx 1 x34 (y37.tail.headD .junk)) fun x40 => bindO (vLoad s38 x40 1 false) fun x41 => bindO (vNil x41) fun x42 => bindO (vField 4 x42) fun x43 => hStore s38 x43 (.lit (.bool false)) 1 (fun s44 => bindO (vNil x41) fun x45 => bindO (vField 0 x45) fun x46 => bindO (vLoad s44 x46 1 false) fun x47 => bindO (vNil x41) fun x48 => bindO (vField 1 x48) fun x49 => bindO (vLoad s44 x49 1 false) fun x50 => bindO (vMk [(0, 1), (1, 1)] [.lit (.string .empty), .lit (.slice none 0 0)] [(0, x47), (1, x50)]) fun x51 => hBS s44 2 1 [.lit (.string .empty), .lit (.slice none 0 0)] [(0, x51)] (fun x52 s53 => hAppend s53 2 40 (y37.headD .junk) x52 (fun x54 s55 => bindO (vBin .add (y37.tail.headD .junk) (.lit (.int .i64 1))) fun x56 => K36 [x54, x56] s55)))) (bindO (vNil a0) fun x57 => bindO (vField 2 x57) fun x58 => bindO (vLoad s38 x58 1 false) fun x59 => hcond x59 (bindO (vNil a0) fun x60 => bindO (vField 8 x60) fun x61 => bindO (vLoad s38 x61 1 false) fun x62 => HC Tryd.prog 52 [(y37.headD .junk), x62] s38 (fun r63 s64 => bindO (vExtract r63 0) fun x65 => bindO (vExtract r63 1) fun x66 => bindO (vNil a0) fun x67 => bindO (vField 10 x67) fun x68 => hStore s64 x68 x65 1 (fun s69 => Q (.tup []) s69))) (bindO (vNil a0) fun x70 => bindO (vField 8 x70) fun x71 => bindO (vLoad s38 x71 1 false) fun x72 => HC Tryd.prog 53 [(y37.headD .junk), x72] s38 (fun r73 s74 => bindO (vExtract r73 0) fun x75 => bindO (vExtract r73 1) fun x76 => bindO (vNil a0) fun x77 => bindO (vField 10 x77) fun x78 => hStore s74 x78 x75 1 (fun s79 => Q (.tup []) s79))))) [(.lit (.slice none 0 0)), (.lit (.int .i64 0))] s31)))))))
theorem c32_eq (a0 : HV) (s : HS) (Q : HV → HS → Prop) : (match Tryd.f32.body with | some c => hwp Tryd.prog (fun p => if p = 14 then some [19] else if p = 4090 then some [3, 44] else none) false 1 c (hretQ Tryd.prog Tryd.f32.results.toList Q) (([a0] : List HV) ++ List.replicate (Tryd.f32.ntmps - 1) (.lit undef)) s | none => False) = c32 a0 s Q := by kernel_rfl
theorem HC32 {a0 : HV} {s : HS} {Q : HV → HS → Prop} (h : c32 a0 s Q) : HC Tryd.prog 32 [a0] s Q := HC_by Tryd.func32 (by have := c32_eq a0 s Q; exact this.mpr h)
/-- (*cordwain/group.Group).goes$1 -/
def c56 (a0 a1 : HV) (s : HS) (Q : HV → HS → Prop) : Prop :=
  bindO (vLoad s a1 1 false) fun x1 => bindO (vNil x1) fun x2 => bindO (vField 6 x2) fun x3 => bindO (vLoad s x3 1 false) fun x4 => bindO (vNil a0) fun x5 => bindO (vField 2 x5) fun x6 => bindO (vLoad s x6 1 false) fun x7 => bindO (vBin .sub x4 x7) fun x8 => bindO (vLoad s a1 1 false) fun x9 => bindO (vNil x9) fun x10 => bindO (vField 0 x10) fun x11 => bindO (vLoad s x11 1 false) fun x12 => bindO (vBin .gtr x8 x12) fun x13 => Q x13 s
theorem c56_eq (a0 a1 : HV) (s : HS) (Q : HV → HS → Prop) : (match Tryd.f56.body with | some c => hwp Tryd.prog (fun p => none) false 1 c (hretQ Tryd.prog Tryd.f56.results.toList Q) (([a0, a1] : List HV) ++ List.replicate (Tryd.f56.ntmps - 2) (.lit undef)) s | none => False) = c56 a0 a1 s Q := by kernel_rfl
theorem HC56 {a0 a1 : HV} {s : HS} {Q : HV → HS → Prop} (h : c56 a0 a1 s Q) : HC Tryd.prog 56 [a0, a1] s Q := HC_by Tryd.func56 (by have := c56_eq a0 a1 s Q; exact this.mpr h)
/-- (*cordwain/group.Group).goes$2 -/
def c57 (a0 : HV) (s : HS) (Q : HV → HS → Prop) : Prop :=
  bindO (vNil a0) fun x1 => bindO (vField 4 x1) fun x2 => bindO (vLoad s x2 1 false) fun x3 => bindO (vUn .not x3) fun x4 => Q x4 s
theorem c57_eq (a0 : HV) (s : HS) (Q : HV → HS → Prop) : (match Tryd.f57.body with | some c => hwp Tryd.prog (fun p => none) false 1 c (hretQ Tryd.prog Tryd.f57.results.toList Q) (([a0] : List HV) ++ List.replicate (Tryd.f57.ntmps - 1) (.lit undef)) s | none => False) = c57 a0 s Q := by kernel_rfl
theorem HC57 {a0 : HV} {s : HS} {Q : HV → HS → Prop} (h : c57 a0 s Q) : HC Tryd.prog 57 [a0] s Q := HC_by Tryd.func57 (by have := c57_eq a0 s Q; exact this.mpr h)
/-- (*cordwain/group.Group).goes -/
def c39 (a0 a1 : HV) (s : HS) (Q : HV → HS → Prop) : Prop :=
  hBox s a0 (fun x1 s2 => bindO (vLoad s2 x1 1 false) fun x3 => bindO (vLoad s2 x1 1 false) fun x4 => bindO (vNil x4) fun x5 => bindO (vField 6 x5) fun x6 => bindO (vLoad s2 x6 1 false) fun x7 => bindO (hfold vMax2 x7 [a1]) fun x8 => bindO (vNil x3) fun x9 => bindO (vField 6 x9) fun x10 => hStore s2 x10 x8 1 (fun s11 => Join (fun K12 => Join (fun K15 => bindO (vLoad s11 x1 1 false) fun x18 => HC Tryd.prog 41 [x18, (.func (.func 56) [x1])] s11 (fun r19 s20 => hcond r19 (bindO (vLoad s20 x1 1 false) fun x21 => bindO (vNil x21) fun x22 => bindO (vField 3 x22) fun x23 => bindO (vLoad s20 x23 1 false) fun x24 => bindO (vCmp (Tryd.prog.underlying 3) .neq x24 (.lit (.int .i64 2))) fun x25 => K15 [x25] s20) (K15 [(.lit (.bool false))] s20))) (fun y16 s17 => hcond (y16.headD .junk) (bindO (vLoad s17 x1 1 false) fun x26 => HC Tryd.prog 31 [x26] s17 (fun r27 s28 => K12 [] s28)) (K12 [] s17))) (fun y13 s14 => Join (fun K29 => Join (fun K32 => bindO (vLoad s14 x1 1 false) fun x35 => bindO (vNil x35) fun x36 => bindO (vField 3 x36) fun x37 => bindO (vLoad s14 x37 1 false) fun x38 => bindO (vCmp (Tryd.prog.underlying 3) .eql x38 (.lit (.int .i64 2))) fun x39 => hcond x39 (bindO (vLoad s14 x1 1 false) fun x40 => bindO (vNil x40) fun x41 => bindO (vField 9 x41) fun x42 => bindO (vLoad s14 x42 1 false) fun x43 => bindO (vLenT (Tryd.prog.underlying 66) s14 x43) fun x44 => bindO (vCmp (Tryd.prog.underlying 3) .eql x44 (.lit (.int .i64 0))) fun x45 => K32 [x45] s14) (K32 [(.lit (.bool false))] s14)) (fun y33 s34 => hcond (y33.headD .junk) (bindO (vLoad s34 x1 1 false) fun x46 => HC Tryd.prog 36 [x46, (.lit (.int .i64 1))] s34 (fun r47 s48 => K29 [] s48)) (K29 [] s34))) (fun y30 s31 => bindO (vLoad s31 x1 1 false) fun x49 => HC Tryd.prog 32 [x49] s31 (fun r50 s51 => Join (fun K52 => bindO (vLoad s51 x1 1 false) fun x55 => bindO (vNil x55) fun x56 => bindO (vField 3 x56) fun x57 => bindO (vLoad s51 x57 1 false) fun x58 => bindO (vCmp (Tryd.prog.underlying 3) .eql x58 (.lit (.int .i64 3))) fun x59 => hcond x59 (bindO (vLoad s51 x1 1 false) fun x60 => HC Tryd.prog 50 [x60] s51 (fun r61 s62 => hcond r61 (bindO (vLoad s62 x1 1 false) fun x63 => HC Tryd.prog 41 [x63, (.func (.func 57) [])] s62 (fun r64 s65 => K52 [r64] s65)) (K52 [(.lit (.bool false))] s62))) (K52 [(.lit (.bool false))] s51)) (fun y53 s54 => hcond (y53.headD .junk) (bindO (vLoad s54 x1 1 false) fun x66 => HC Tryd.prog 31 [x66] s54 (fun r67 s68 => Q (.tup []) s68)) (Q (.tup []) s54)))))))
theorem c39_eq (a0 a1 : HV) (s : HS) (Q : HV → HS → Prop) : (match Tryd.f39.body with | some c => hwp Tryd.prog (fun p => if p = 7 then some [] else if p = 14 then some [22] else if p = 15 then some [] else if p = 30 then some [37] else if p = 63 then some [54] else none) false 1 c (hretQ Tryd.prog Tryd.f39.results.toList Q) (([a0, a1] : List HV) ++ List.replicate (Tryd.f39.ntmps - 2) (.lit undef)) s | none => False) = c39 a0 a1 s Q := by kernel_rfl
theorem HC39 {a0 a1 : HV} {s : HS} {Q : HV → HS → Prop} (h : c39 a0 a1 s Q) : HC Tryd.prog 39 [a0, a1] s Q := HC_by Tryd.func39 (by have := c39_eq a0 a1 s Q; exact this.mpr h)
/-- (*cordwain/group.Group).Tick -/
def c17 (a0 a1 a2 : HV) (s : HS) (Q : HV → HS → Prop) : Prop :=
  bindO (vCmp (Tryd.prog.underlying 23) .neq a0 (.lit (.pointer none))) fun x1 => hcond x1 (HC Tryd.prog 38 [a1] s (fun r2 s3 => bindO (vNil a0) fun x4 => bindO (vField 8 x4) fun x5 => hStore s3 x5 r2 1 (fun s6 => HC Tryd.prog 39 [a0, a2] s6 (fun r7 s8 => Q (.tup []) s8)))) (Q (.tup []) s)
theorem c17_eq (a0 a1 a2 : HV) (s : HS) (Q : HV → HS → Prop) : (match Tryd.f17.body with | some c => hwp Tryd.prog (fun p => none) false 1 c (hretQ Tryd.prog Tryd.f17.results.toList Q) (([a0, a1, a2] : List HV) ++ List.replicate (Tryd.f17.ntmps - 3) (.lit undef)) s | none => False) = c17 a0 a1 a2 s Q := by kernel_rfl
theorem HC17 {a0 a1 a2 : HV} {s : HS} {Q : HV → HS → Prop} (h : c17 a0 a1 a2 s Q) : HC Tryd.prog 17 [a0, a1, a2] s Q := HC_by Tryd.func17 (by have := c17_eq a0 a1 a2 s Q; exact this.mpr h)
/-- internal/strconv.small -/
def c64 (a0 : HV) (s : HS) (Q : HV → HS → Prop) : Prop :=
  bindO (vBin .lss a0 (.lit (.int .i64 10))) fun x1 => hcond x1 (bindO (vBin .add a0 (.lit (.int .i64 1))) fun x2 => bindO (vStrSlice (.lit (.string { data := #[48, 49, 50, 51, 52, 53, 54, 55, 56, 57, 97, 98, 99, 100, 101, 102, 103, 104, 105, 106, 107, 108, 109, 110, 111, 112, 113, 114, 115, 116, 117, 118, 119, 120, 121, 122] })) (some a0) (some x2)) fun x3 => Q x3 s) (bindO (vBin .mul a0 (.lit (.int .i64 2))) fun x4 => bindO (vBin .mul a0 (.lit (.int .i64 2))) fun x5 => bindO (vBin .add x5 (.lit (.int .i64 2))) fun x6 => bindO (vStrSlice (.lit (.string { data := #[48, 48, 48, 49, 48, 50, 48, 51, 48, 52, 48, 53, 48, 54, 48, 55, 48, 56, 48, 57, 49, 48, 49, 49, 49, 50, 49, 51, 49, 52, 49, 53, 49, 54, 49, 55, 49, 56, 49, 57, 50, 48, 50, 49, 50, 50, 50, 51, 50, 52, 50, 53, 50, 54, 50, 55, 50, 56, 50, 57, 51, 48, 51, 49, 51, 50, 51, 51, 51, 52, 51, 53, 51, 54, 51, 55, 51, 56, 51, 57, 52, 48, 52, 49, 52, 50, 52, 51, 52, 52, 52, 53, 52, 54, 52, 55, 52, 56, 52, 57, 53, 48, 53, 49, 53, 50, 53, 51, 53, 52, 53, 53, 53, 54, 53, 55, 53, 56, 53, 57, 54, 48, 54, 49, 54, 50, 54, 51, 54, 52, 54, 53, 54, 54, 54, 55, 54, 56, 54, 57, 55, 48, 55, 49, 55, 50, 55, 51, 55, 52, 55, 53, 55, 54, 55, 55, 55, 56, 55, 57, 56, 48, 56, 49, 56, 50, 56, 51, 56, 52, 56, 53, 56, 54, 56, 55, 56, 56, 56, 57, 57, 48, 57, 49, 57, 50, 57, 51, 57, 52, 57, 53, 57, 54, 57, 55, 57, 56, 57, 57] })) (some x4) (some x6)) fun x7 => Q x7 s)
theorem c64_eq (a0 : HV) (s : HS) (Q : HV → HS → Prop) : (match Tryd.f64.body with | some c => hwp Tryd.prog (fun p => none) false 1 c (hretQ Tryd.prog Tryd.f64.results.toList Q) (([a0] : List HV) ++ List.replicate (Tryd.f64.ntmps - 1) (.lit undef)) s | none => False) = c64 a0 s Q := by kernel_rfl
theorem HC64 {a0 : HV} {s : HS} {Q : HV → HS → Prop} (h : c64 a0 s Q) : HC Tryd.prog 64 [a0] s Q := HC_by Tryd.func64 (by have := c64_eq a0 s Q; exact this.mpr h)
/-- internal/strconv.Itoa -/
def c48 (a0 : HV) (s : HS) (Q : HV → HS → Prop) : Prop :=
  HC Tryd.prog 59 [a0, (.lit (.int .i64 10))] s (fun r1 s2 => Q r1 s2)
theorem c48_eq (a0 : HV) (s : HS) (Q : HV → HS → Prop) : (match Tryd.f48.body with | some c => hwp Tryd.prog (fun p => none) false 1 c (hretQ Tryd.prog Tryd.f48.results.toList Q) (([a0] : List HV) ++ List.replicate (Tryd.f48.ntmps - 1) (.lit undef)) s | none => False) = c48 a0 s Q := by kernel_rfl
theorem HC48 {a0 : HV} {s : HS} {Q : HV → HS → Prop} (h : c48 a0 s Q) : HC Tryd.prog 48 [a0] s Q := HC_by Tryd.func48 (by have := c48_eq a0 s Q; exact this.mpr h)
/-- internal/strconv.FormatInt -/
def c59 (a0 a1 : HV) (s : HS) (Q : HV → HS → Prop) : Prop :=
  bindO (vCmp (Tryd.prog.underlying 3) .eql a1 (.lit (.int .i64 10))) fun x1 => hcond x1 (Join (fun K2 => bindO (vBin .leq (.lit (.int .i64 0)) a0) fun x5 => hcond x5 (bindO (vBin .lss a0 (.lit (.int .i64 100))) fun x6 => K2 [x6] s) (K2 [(.lit (.bool false))] s)) (fun y3 s4 => hcond (y3.headD .junk) (HC Tryd.prog 64 [a0] s4 (fun r7 s8 => Q r7 s8)) (hNew s4 (.cells [.lit (.int .u8 0), .lit (.int .u8 0), .lit (.int .u8 0), .lit (.int .u8 0), .lit (.int .u8 0), .lit (.int .u8 0), .lit (.int .u8 0), .lit (.int .u8 0), .lit (.int .u8 0), .lit (.int .u8 0), .lit (.int .u8 0), .lit (.int .u8 0), .lit (.int .u8 0), .lit (.int .u8 0), .lit (.int .u8 0), .lit (.int .u8 0), .lit (.int .u8 0), .lit (.int .u8 0), .lit (.int .u8 0), .lit (.int .u8 0), .lit (.int .u8 0), .lit (.int .u8 0), .lit (.int .u8 0), .lit (.int .u8 0)]) (fun id => .ptr id 0) (fun x9 s10 => bindO (vToInt .u64 a0) fun x11 => Join (fun K12 => bindO (vBin .lss a0 (.lit (.int .i64 0))) fun x15 => hcond x15 (bindO (vUn .neg x11) fun x16 => K12 [x16] s10) (K12 [x11] s10)) (fun y13 s14 => HC Tryd.prog 65 [(y13.headD .junk)] s14 (fun r17 s18 => bindO (vBin .add (.lit (.int .i64 1)) r17) fun x19 => False)))))) (bindO (vToInt .u64 a0) fun x20 => bindO (vBin .lss a0 (.lit (.int .i64 0))) fun x21 => HC Tryd.prog 67 [(.lit (.slice none 0 0)), x20, a1, x21, (.lit (.bool false))] s (fun r22 s23 => bindO (vExtract r22 0) fun x24 => bindO (vExtract r22 1) fun x25 => Q x25 s23))
theorem c59_eq (a0 a1 : HV) (s : HS) (Q : HV → HS → Prop) : (match Tryd.f59.body with | some c => hwp Tryd.prog (fun p => if p = 52 then some [17] else if p = 215 then some [6] else none) false 1 c (hretQ Tryd.prog Tryd.f59.results.toList Q) (([a0, a1] : List HV) ++ List.replicate (Tryd.f59.ntmps - 2) (.lit undef)) s | none => False) = c59 a0 a1 s Q := by kernel_rfl
theorem HC59 {a0 a1 : HV} {s : HS} {Q : HV → HS → Prop} (h : c59 a0 a1 s Q) : HC Tryd.prog 59 [a0, a1] s Q := HC_by Tryd.func59 (by have := c59_eq a0 a1 s Q; exact this.mpr h)
/-- strconv.Itoa -/
def c28 (a0 : HV) (s : HS) (Q : HV → HS → Prop) : Prop :=
  HC Tryd.prog 48 [a0] s (fun r1 s2 => Q r1 s2)
theorem c28_eq (a0 : HV) (s : HS) (Q : HV → HS → Prop) : (match Tryd.f28.body with | some c => hwp Tryd.prog (fun p => none) false 1 c (hretQ Tryd.prog Tryd.f28.results.toList Q) (([a0] : List HV) ++ List.replicate (Tryd.f28.ntmps - 1) (.lit undef)) s | none => False) = c28 a0 s Q := by kernel_rfl
theorem HC28 {a0 : HV} {s : HS} {Q : HV → HS → Prop} (h : c28 a0 s Q) : HC Tryd.prog 28 [a0] s Q := HC_by Tryd.func28 (by have := c28_eq a0 s Q; exact this.mpr h)
/-- slices.Equal[[]string,string] -/
def c29 (a0 a1 : HV) (s : HS) (Q : HV → HS → Prop) : Prop :=
  bindO (vLenT (Tryd.prog.underlying 32) s a0) fun x1 => bindO (vLenT (Tryd.prog.underlying 32) s a1) fun x2 => bindO (vCmp (Tryd.prog.underlying 3) .neq x1 x2) fun x3 => hcond x3 (Q (.lit (.bool false)) s) (bindO (vLenT (Tryd.prog.underlying 32) s a0) fun x4 => HLoop (fun y6 s7 K5 => bindO (vBin .lss (y6.headD .junk) x4) fun x8 => hcond x8 (bindO (vIdx 1 a0 (y6.headD .junk)) fun x9 => bindO (vLoad s7 x9 1 false) fun x10 => bindO (vIdx 1 a1 (y6.headD .junk)) fun x11 => bindO (vLoad s7 x11 1 false) fun x12 => bindO (vCmp (Tryd.prog.underlying 9) .neq x10 x12) fun x13 => hcond x13 (Q (.lit (.bool false)) s7) (bindO (vBin .add (y6.headD .junk) (.lit (.int .i64 1))) fun x14 => K5 [x14] s7)) (Q (.lit (.bool true)) s7)) [(.lit (.int .i64 0))] s)
theorem c29_eq (a0 a1 : HV) (s : HS) (Q : HV → HS → Prop) : (match Tryd.f29.body with | some c => hwp Tryd.prog (fun p => if p = 58 then some [13] else none) false 1 c (hretQ Tryd.prog Tryd.f29.results.toList Q) (([a0, a1] : List HV) ++ List.replicate (Tryd.f29.ntmps - 2) (.lit undef)) s | none => False) = c29 a0 a1 s Q := by kernel_rfl
theorem HC29 {a0 a1 : HV} {s : HS} {Q : HV → HS → Prop} (h : c29 a0 a1 s Q) : HC Tryd.prog 29 [a0, a1] s Q := HC_by Tryd.func29 (by have := c29_eq a0 a1 s Q; exact this.mpr h)
/-- slices.Clone[[]string,string] -/
def c30 (a0 : HV) (s : HS) (Q : HV → HS → Prop) : Prop :=
  bindO (vCmp (Tryd.prog.underlying 32) .eql a0 (.lit (.slice none 0 0))) fun x1 => hcond x1 (Q (.lit (.slice none 0 0)) s) (hBS s 1 0 [] [] (fun x2 s3 => hAppend s3 1 16 x2 a0 (fun x4 s5 => Q x4 s5)))
theorem c30_eq (a0 : HV) (s : HS) (Q : HV → HS → Prop) : (match Tryd.f30.body with | some c => hwp Tryd.prog (fun p => none) false 1 c (hretQ Tryd.prog Tryd.f30.results.toList Q) (([a0] : List HV) ++ List.replicate (Tryd.f30.ntmps - 1) (.lit undef)) s | none => False) = c30 a0 s Q := by kernel_rfl
theorem HC30 {a0 : HV} {s : HS} {Q : HV → HS → Prop} (h : c30 a0 s Q) : HC Tryd.prog 30 [a0] s Q := HC_by Tryd.func30 (by have := c30_eq a0 s Q; exact this.mpr h)
/-- (*cordwain/group.Group).Join -/
def c10 (a0 a1 a2 a3 a4 : HV) (s : HS) (Q : HV → HS → Prop) : Prop :=
  bindO (vCmp (Tryd.prog.underlying 23) .eql a0 (.lit (.pointer none))) fun x1 => hcond x1 (Q (.tup [(.lit (.string { data := #[] })), (.lit (.int .i64 0)), (.lit (.int .i64 13))]) s) (HC Tryd.prog 17 [a0, a3, a4] s (fun r2 s3 => HC Tryd.prog 27 [a0, a1] s3 (fun r4 s5 => bindO (vLenT (Tryd.prog.underlying 32) s5 a2) fun x6 => bindO (vBin .gtr x6 (.lit (.int .i64 30))) fun x7 => hcond x7 (Q (.tup [(.lit (.string { data := #[] })), (.lit (.int .i64 0)), (.lit (.int .i64 1))]) s5) (Join (fun K8 => bindO (vCmp (Tryd.prog.underlying 9) .eql a1 (.lit (.string { data := #[] }))) fun x11 => hcond x11 (bindO (vNil a0) fun x12 => bindO (vField 9 x12) fun x13 => bindO (vLoad s5 x13 1 false) fun x14 => bindO (vLenT (Tryd.prog.underlying 66) s5 x14) fun x15 => bindO (vBin .geq x15 (.lit (.int .i64 20))) fun x16 => K8 [x16] s5) (K8 [(.lit (.bool false))] s5)) (fun y9 s10 => hcond (y9.headD .junk) (Q (.tup [(.lit (.string { data := #[] })), (.lit (.int .i64 0)), (.lit (.int .i64 4))]) s10) (Join (fun K17 => bindO (vCmp (Tryd.prog.underlying 9) .neq a1 (.lit (.string { data := #[] }))) fun x20 => hcond x20 (bindO (vCmp (Tryd.prog.underlying 69) .eql r4 (.lit (.pointer none))) fun x21 => K17 [x21] s10) (K17 [(.lit (.bool false))] s10)) (fun y18 s19 => hcond (y18.headD .junk) (Q (.tup [(.lit (.string { data := #[] })), (.lit (.int .i64 0)), (.lit (.int .i64 13))]) s19) (bindO (vCmp (Tryd.prog.underlying 9) .eql a1 (.lit (.string { data := #[] }))) fun x22 => Join (fun K23 => hcond x22 (bindO (vNil a0) fun x26 => bindO (vField 5 x26) fun x27 => bindO (vLoad s19 x27 1 false) fun x28 => bindO (vBin .add x28 (.lit (.int .i64 1))) fun x29 => bindO (vNil a0) fun x30 => bindO (vField 5 x30) fun x31 => hStore s19 x31 x29 1 (fun s32 => bindO (vNil a0) fun x33 => bindO (vField 5 x33) fun x34 => bindO (vLoad s32 x34 1 false) fun x35 => HC Tryd.prog 28 [x35] s32 (fun r36 s37 => bindO (vBin .add (.lit (.string { data := #[109] })) r36) fun x38 => bindO (vMk [(0, 1), (1, 1), (2, 1), (3, 1), (4, 1)] [.lit (.string .empty), .lit (.slice none 0 0), .lit (.int .i64 0), .lit (.bool false), .lit (.bool false)] [(0, x38)]) fun x39 => hBox s37 x39 (fun x40 s41 => bindO (vNil a0) fun x42 => bindO (vField 9 x42) fun x43 => bindO (vLoad s41 x43 1 false) fun x44 => hBS s41 1 1 [.lit (.pointer none)] [(0, x40)] (fun x45 s46 => hAppend s46 1 8 x44 x45 (fun x47 s48 => bindO (vNil a0) fun x49 => bindO (vField 9 x49) fun x50 => hStore s48 x50 x47 1 (fun s51 => K23 [x40] s51))))))) (K23 [r4] s19)) (fun y24 s25 => bindO (vNil a0) fun x52 => bindO (vField 6 x52) fun x53 => bindO (vLoad s25 x53 1 false) fun x54 => bindO (vNil (y24.headD .junk)) fun x55 => bindO (vField 2 x55) fun x56 => hStore s25 x56 x54 1 (fun s57 => Join (fun K58 => Join (fun K61 => hcond x22 (K61 [(.lit (.bool true))] s57) (bindO (vNil a0) fun x64 => bindO (vField 3 x64) fun x65 => bindO (vLoad s57 x65 1 false) fun x66 => bindO (vCmp (Tryd.prog.underlying 3) .eql x66 (.lit (.int .i64 2))) fun x67 => hcond x67 (K61 [(.lit (.bool true))] s57) (bindO (vNil (y24.headD .junk)) fun x68 => bindO (vField 1 x68) fun x69 => bindO (vLoad s57 x69 1 false) fun x70 => HC Tryd.prog 29 [x70, a2] s57 (fun r71 s72 => bindO (vUn .not r71) fun x73 => K61 [x73] s72)))) (fun y62 s63 => hcond (y62.headD .junk) (HC Tryd.prog 30 [a2] s63 (fun r74 s75 => bindO (vNil (y24.headD .junk)) fun x76 => bindO (vField 1 x76) fun x77 => hStore s75 x77 r74 1 (fun s78 => Join (fun K79 => bindO (vNil a0) fun x82 => bindO (vField 3 x82) fun x83 => bindO (vLoad s78 x83 1 false) fun x84 => bindO (vCmp (Tryd.prog.underlying 3) .neq x84 (.lit (.int .i64 2))) fun x85 => hcond x85 (HC Tryd.prog 31 [a0] s78 (fun r86 s87 => K79 [] s87)) (K79 [] s78)) (fun y80 s81 => bindO (vNil (y24.headD .junk)) fun x88 => bindO (vField 3 x88) fun x89 => hStore s81 x89 (.lit (.bool true)) 1 (fun s90 => HC Tryd.prog 32 [a0] s90 (fun r91 s92 => K58 [] s92)))))) (K58 [] s63))) (fun y59 s60 => bindO (vNil a0) fun x93 => bindO (vField 3 x93) fun x94 => bindO (vLoad s60 x94 1 false) fun x95 => bindO (vCmp (Tryd.prog.underlying 3) .eql x95 (.lit (.int .i64 2))) fun x96 => hcond x96 (bindO (vNil (y24.headD .junk)) fun x97 => bindO (vField 0 x97) fun x98 => bindO (vLoad s60 x98 1 false) fun x99 => Q (.tup [x99, (.lit (.int .i64 0)), (.lit (.int .i64 14))]) s60) (bindO (vNil (y24.headD .junk)) fun x100 => bindO (vField 0 x100) fun x101 => bindO (vLoad s60 x101 1 false) fun x102 => bindO (vNil a0) fun x103 => bindO (vField 4 x103) fun x104 => bindO (vLoad s60 x104 1 false) fun x105 => (vLoad s60 x104 1 false = vLoad s60 x104 1 false ∧ Q (.tup [x102, x105, (.lit (.int .i64 0))]) s60)))))))))))))
theorem c10_eq (a0 a1 a2 a3 a4 : HV) (s : HS) (Q : HV → HS → Prop) : (match Tryd.f10.body with | some c => hwp Tryd.prog (fun p => if p = 127 then some [13] else if p = 499 then some [28] else if p = 511 then some [] else if p = 1022 then some [97] else if p = 1999 then some [39] else if p = 8181 then some [] else none) false 1 c (hretQ Tryd.prog Tryd.f10.results.toList Q) (([a0, a1, a2, a3, a4] : List HV) ++ List.replicate (Tryd.f10.ntmps - 5) (.lit undef)) s | none => False) = c10 a0 a1 a2 a3 a4 s Q := by kernel_rfl
theorem HC10 {a0 a1 a2 a3 a4 : HV} {s : HS} {Q : HV → HS → Prop} (h : c10 a0 a1 a2 a3 a4 s Q) : HC Tryd.prog 10 [a0, a1, a2, a3, a4] s Q := HC_by Tryd.func10 (by have := c10_eq a0 a1 a2 a3 a4 s Q; exact this.mpr h)
/-- (*cordwain/group.Group).fence -/
def c44 (a0 a1 a2 : HV) (s : HS) (Q : HV → HS → Prop) : Prop :=
  bindO (vCmp (Tryd.prog.underlying 23) .eql a0 (.lit (.pointer none))) fun x1 => hcond x1 (Q (.tup [(.lit (.pointer none)), (.lit (.int .i64 13))]) s) (HC Tryd.prog 27 [a0, a1] s (fun r2 s3 => bindO (vCmp (Tryd.prog.underlying 69) .eql r2 (.lit (.pointer none))) fun x4 => hcond x4 (Q (.tup [(.lit (.pointer none)), (.lit (.int .i64 13))]) s3) (bindO (vNil a0) fun x5 => bindO (vField 4 x5) fun x6 => bindO (vLoad s3 x6 1 false) fun x7 => bindO (vCmp (Tryd.prog.underlying 3) .neq a2 x7) fun x8 => hcond x8 (Q (.tup [(.lit (.pointer none)), (.lit (.int .i64 12))]) s3) (Q (.tup [r2, (.lit (.int .i64 0))]) s3))))
theorem c44_eq (a0 a1 a2 : HV) (s : HS) (Q : HV → HS → Prop) : (match Tryd.f44.body with | some c => hwp Tryd.prog (fun p => none) false 1 c (hretQ Tryd.prog Tryd.f44.results.toList Q) (([a0, a1, a2] : List HV) ++ List.replicate (Tryd.f44.ntmps - 3) (.lit undef)) s | none => False) = c44 a0 a1 a2 s Q := by kernel_rfl
theorem HC44 {a0 a1 a2 : HV} {s : HS} {Q : HV → HS → Prop} (h : c44 a0 a1 a2 s Q) : HC Tryd.prog 44 [a0, a1, a2] s Q := HC_by Tryd.func44 (by have := c44_eq a0 a1 a2 s Q; exact this.mpr h)
/-- (*cordwain/group.Group).heard -/
def c33 (a0 a1 a2 a3 : HV) (s : HS) (Q : HV → HS → Prop) : Prop :=
  Join (fun K1 => bindO (vCmp (Tryd.prog.underlying 23) .neq a0 (.lit (.pointer none))) fun x4 => hcond x4 (HC Tryd.prog 39 [a0, a3] s (fun r5 s6 => K1 [] s6)) (K1 [] s)) (fun y2 s3 => HC Tryd.prog 44 [a0, a1, a2] s3 (fun r7 s8 => bindO (vExtract r7 0) fun x9 => bindO (vExtract r7 1) fun x10 => bindO (vCmp (Tryd.prog.underlying 24) .neq x10 (.lit (.int .i64 0))) fun x11 => hcond x11 (Q (.tup [(.lit (.pointer none)), x10]) s8) (bindO (vNil a0) fun x12 => bindO (vField 6 x12) fun x13 => bindO (vLoad s8 x13 1 false) fun x14 => bindO (vNil x9) fun x15 => bindO (vField 2 x15) fun x16 => hStore s8 x16 x14 1 (fun s17 => bindO (vNil a0) fun x18 => bindO (vField 3 x18) fun x19 => bindO (vLoad s17 x19 1 false) fun x20 => bindO (vCmp (Tryd.prog.underlying 3) .eql x20 (.lit (.int .i64 2))) fun x21 => hcond x21 (Q (.tup [(.lit (.pointer none)), (.lit (.int .i64 14))]) s17) (Q (.tup [x9, (.lit (.int .i64 0))]) s17)))))
theorem c33_eq (a0 a1 a2 a3 : HV) (s : HS) (Q : HV → HS → Prop) : (match Tryd.f33.body with | some c => hwp Tryd.prog (fun p => if p = 3 then some [] else none) false 1 c (hretQ Tryd.prog Tryd.f33.results.toList Q) (([a0, a1, a2, a3] : List HV) ++ List.replicate (Tryd.f33.ntmps - 4) (.lit undef)) s | none => False) = c33 a0 a1 a2 a3 s Q := by kernel_rfl
theorem HC33 {a0 a1 a2 a3 : HV} {s : HS} {Q : HV → HS → Prop} (h : c33 a0 a1 a2 a3 s Q) : HC Tryd.prog 33 [a0, a1, a2, a3] s Q := HC_by Tryd.func33 (by have := c33_eq a0 a1 a2 a3 s Q; exact this.mpr h)
/-- (*cordwain/group.Group).Sync$1 -/
def c35 (a0 : HV) (s : HS) (Q : HV → HS → Prop) : Prop :=
  bindO (vNil a0) fun x1 => bindO (vField 4 x1) fun x2 => bindO (vLoad s x2 1 false) fun x3 => Q x3 s
theorem c35_eq (a0 : HV) (s : HS) (Q : HV → HS → Prop) : (match Tryd.f35.body with | some c => hwp Tryd.prog (fun p => none) false 1 c (hretQ Tryd.prog Tryd.f35.results.toList Q) (([a0] : List HV) ++ List.replicate (Tryd.f35.ntmps - 1) (.lit undef)) s | none => False) = c35 a0 s Q := by kernel_rfl
theorem HC35 {a0 : HV} {s : HS} {Q : HV → HS → Prop} (h : c35 a0 s Q) : HC Tryd.prog 35 [a0] s Q := HC_by Tryd.func35 (by have := c35_eq a0 s Q; exact this.mpr h)
/-- slices.Clone[[]cordwain/api.Slot,cordwain/api.Slot] -/
def c43 (a0 : HV) (s : HS) (Q : HV → HS → Prop) : Prop :=
  bindO (vCmp (Tryd.prog.underlying 34) .eql a0 (.lit (.slice none 0 0))) fun x1 => hcond x1 (Q (.lit (.slice none 0 0)) s) (hBS s 2 0 [] [] (fun x2 s3 => hAppend s3 2 24 x2 a0 (fun x4 s5 => Q x4 s5)))
theorem c43_eq (a0 : HV) (s : HS) (Q : HV → HS → Prop) : (match Tryd.f43.body with | some c => hwp Tryd.prog (fun p => none) false 1 c (hretQ Tryd.prog Tryd.f43.results.toList Q) (([a0] : List HV) ++ List.replicate (Tryd.f43.ntmps - 1) (.lit undef)) s | none => False) = c43 a0 s Q := by kernel_rfl
theorem HC43 {a0 : HV} {s : HS} {Q : HV → HS → Prop} (h : c43 a0 s Q) : HC Tryd.prog 43 [a0] s Q := HC_by Tryd.func43 (by have := c43_eq a0 s Q; exact this.mpr h)
/-- cordwain/assign.Of -/
def c37 (a0 a1 : HV) (s : HS) (Q : HV → HS → Prop) : Prop :=
  bindO (vLenT (Tryd.prog.underlying 58) s a0) fun x1 => HLoop (fun y3 s4 K2 => bindO (vBin .lss (y3.headD .junk) x1) fun x5 => hcond x5 (bindO (vIdx 2 a0 (y3.headD .junk)) fun x6 => bindO (vLoad s4 x6 2 true) fun x7 => hNew s4 (.cells [.lit (.string .empty), .lit (.slice none 0 0)]) (fun id => .ptr id 0) (fun x8 s9 => hStore s9 x8 x7 2 (fun s10 => bindO (vField 0 x8) fun x11 => bindO (vLoad s10 x11 1 false) fun x12 => bindO (vCmp (Tryd.prog.underlying 9) .eql x12 a1) fun x13 => hcond x13 (bindO (vField 1 x8) fun x14 => bindO (vLoad s10 x14 1 false) fun x15 => HC Tryd.prog 43 [x15] s10 (fun r16 s17 => Q r16 s17)) (bindO (vBin .add (y3.headD .junk) (.lit (.int .i64 1))) fun x18 => K2 [x18] s10)))) (Q (.lit (.slice none 0 0)) s4)) [(.lit (.int .i64 0))] s
theorem c37_eq (a0 a1 : HV) (s : HS) (Q : HV → HS → Prop) : (match Tryd.f37.body with | some c => hwp Tryd.prog (fun p => if p = 26 then some [9] else none) false 1 c (hretQ Tryd.prog Tryd.f37.results.toList Q) (([a0, a1] : List HV) ++ List.replicate (Tryd.f37.ntmps - 2) (.lit undef)) s | none => False) = c37 a0 a1 s Q := by kernel_rfl
theorem HC37 {a0 a1 : HV} {s : HS} {Q : HV → HS → Prop} (h : c37 a0 a1 s Q) : HC Tryd.prog 37 [a0, a1] s Q := HC_by Tryd.func37 (by have := c37_eq a0 a1 s Q; exact this.mpr h)
/-- (*cordwain/group.Group).Sync -/
def c12 (a0 a1 a2 a3 : HV) (s : HS) (Q : HV → HS → Prop) : Prop :=
  HC Tryd.prog 33 [a0, a1, a2, a3] s (fun r1 s2 => bindO (vExtract r1 0) fun x3 => bindO (vExtract r1 1) fun x4 => bindO (vCmp (Tryd.prog.underlying 24) .neq x4 (.lit (.int .i64 0))) fun x5 => hcond x5 (Q (.tup [(.lit (.slice none 0 0)), x4]) s2) (bindO (vNil x3) fun x6 => bindO (vField 4 x6) fun x7 => hStore s2 x7 (.lit (.bool true)) 1 (fun s8 => Join (fun K9 => Join (fun K12 => bindO (vNil a0) fun x15 => bindO (vField 3 x15) fun x16 => bindO (vLoad s8 x16 1 false) fun x17 => bindO (vCmp (Tryd.prog.underlying 3) .eql x17 (.lit (.int .i64 3))) fun x18 => hcond x18 (HC Tryd.prog 34 [a0, (.func (.func 35) [])] s8 (fun r19 s20 => K12 [r19] s20)) (K12 [(.lit (.bool false))] s8)) (fun y13 s14 => hcond (y13.headD .junk) (HC Tryd.prog 36 [a0, (.lit (.int .i64 4))] s14 (fun r21 s22 => K9 [] s22)) (K9 [] s14))) (fun y10 s11 => bindO (vNil a0) fun x23 => bindO (vField 10 x23) fun x24 => bindO (vLoad s11 x24 1 false) fun x25 => HC Tryd.prog 37 [x25, a1] s11 (fun r26 s27 => Q (.tup [r26, (.lit (.int .i64 0))]) s27)))))
theorem c12_eq (a0 a1 a2 a3 : HV) (s : HS) (Q : HV → HS → Prop) : (match Tryd.f12.body with | some c => hwp Tryd.prog (fun p => if p = 31 then some [] else if p = 62 then some [34] else none) false 1 c (hretQ Tryd.prog Tryd.f12.results.toList Q) (([a0, a1, a2, a3] : List HV) ++ List.replicate (Tryd.f12.ntmps - 4) (.lit undef)) s | none => False) = c12 a0 a1 a2 a3 s Q := by kernel_rfl
theorem HC12 {a0 a1 a2 a3 : HV} {s : HS} {Q : HV → HS → Prop} (h : c12 a0 a1 a2 a3 s Q) : HC Tryd.prog 12 [a0, a1, a2, a3] s Q := HC_by Tryd.func12 (by have := c12_eq a0 a1 a2 a3 s Q; exact this.mpr h)
/-- (*cordwain/group.Group).State -/
def c14 (a0 : HV) (s : HS) (Q : HV → HS → Prop) : Prop :=
  bindO (vCmp (Tryd.prog.underlying 23) .eql a0 (.lit (.pointer none))) fun x1 => hcond x1 (Q (.lit (.int .i64 0)) s) (bindO (vNil a0) fun x2 => bindO (vField 3 x2) fun x3 => bindO (vLoad s x3 1 false) fun x4 => Q x4 s)
theorem c14_eq (a0 : HV) (s : HS) (Q : HV → HS → Prop) : (match Tryd.f14.body with | some c => hwp Tryd.prog (fun p => none) false 1 c (hretQ Tryd.prog Tryd.f14.results.toList Q) (([a0] : List HV) ++ List.replicate (Tryd.f14.ntmps - 1) (.lit undef)) s | none => False) = c14 a0 s Q := by kernel_rfl
theorem HC14 {a0 : HV} {s : HS} {Q : HV → HS → Prop} (h : c14 a0 s Q) : HC Tryd.prog 14 [a0] s Q := HC_by Tryd.func14 (by have := c14_eq a0 s Q; exact this.mpr h)
/-- (*cordwain/group.Group).Beat -/
def c16 (a0 a1 a2 a3 : HV) (s : HS) (Q : HV → HS → Prop) : Prop :=
  HC Tryd.prog 33 [a0, a1, a2, a3] s (fun r1 s2 => bindO (vExtract r1 0) fun x3 => bindO (vExtract r1 1) fun x4 => Q x4 s2)
theorem c16_eq (a0 a1 a2 a3 : HV) (s : HS) (Q : HV → HS → Prop) : (match Tryd.f16.body with | some c => hwp Tryd.prog (fun p => none) false 1 c (hretQ Tryd.prog Tryd.f16.results.toList Q) (([a0, a1, a2, a3] : List HV) ++ List.replicate (Tryd.f16.ntmps - 4) (.lit undef)) s | none => False) = c16 a0 a1 a2 a3 s Q := by kernel_rfl
theorem HC16 {a0 a1 a2 a3 : HV} {s : HS} {Q : HV → HS → Prop} (h : c16 a0 a1 a2 a3 s Q) : HC Tryd.prog 16 [a0, a1, a2, a3] s Q := HC_by Tryd.func16 (by have := c16_eq a0 a1 a2 a3 s Q; exact this.mpr h)
/-- cordwain/cordwainalike.Round -/
def c15 (a0 a1 : HV) (s : HS) (Q : HV → HS → Prop) : Prop :=
  bindO (vBin .rem a0 a1) fun x1 => Join (fun K2 => bindO (vBin .lss x1 (.lit (.int .i64 0))) fun x5 => hcond x5 (bindO (vBin .add x1 a1) fun x6 => K2 [x6] s) (K2 [x1] s)) (fun y3 s4 => Q (y3.headD .junk) s4)
theorem c15_eq (a0 a1 : HV) (s : HS) (Q : HV → HS → Prop) : (match Tryd.f15.body with | some c => hwp Tryd.prog (fun p => if p = 7 then some [0] else none) false 1 c (hretQ Tryd.prog Tryd.f15.results.toList Q) (([a0, a1] : List HV) ++ List.replicate (Tryd.f15.ntmps - 2) (.lit undef)) s | none => False) = c15 a0 a1 s Q := by kernel_rfl
theorem HC15 {a0 a1 : HV} {s : HS} {Q : HV → HS → Prop} (h : c15 a0 a1 s Q) : HC Tryd.prog 15 [a0, a1] s Q := HC_by Tryd.func15 (by have := c15_eq a0 a1 s Q; exact this.mpr h)
/-- cordwain/cordwainlaw17.all -/
def c20 (a0 : HV) (s : HS) (Q : HV → HS → Prop) : Prop :=
  HC Tryd.prog 15 [a0, (.lit (.int .i64 5))] s (fun r1 s2 => bindO (vMk [(0, 1), (1, 1)] [.lit (.string .empty), .lit (.int .i64 0)] [(0, (.lit (.string { data := #[98] }))), (1, r1)]) fun x3 => bindO (vMk [(0, 1), (1, 1)] [.lit (.string .empty), .lit (.int .i64 0)] [(0, (.lit (.string { data := #[97] }))), (1, (.lit (.int .i64 2)))]) fun x4 => hBS s2 2 2 [.lit (.string .empty), .lit (.int .i64 0), .lit (.string .empty), .lit (.int .i64 0)] [(0, x3), (1, x4)] (fun x5 s6 => bindO (vMk [(0, 1), (1, 1)] [.lit (.string .empty), .lit (.int .i64 0)] [(0, (.lit (.string { data := #[98] }))), (1, r1)]) fun x7 => bindO (vMk [(0, 1), (1, 1)] [.lit (.string .empty), .lit (.int .i64 0)] [(0, (.lit (.string { data := #[97] }))), (1, (.lit (.int .i64 2)))]) fun x8 => hBS s6 2 2 [.lit (.string .empty), .lit (.int .i64 0), .lit (.string .empty), .lit (.int .i64 0)] [(0, x7), (1, x8)] (fun x9 s10 => Q (.tup [x5, x9]) s10)))
theorem c20_eq (a0 : HV) (s : HS) (Q : HV → HS → Prop) : (match Tryd.f20.body with | some c => hwp Tryd.prog (fun p => none) false 1 c (hretQ Tryd.prog Tryd.f20.results.toList Q) (([a0] : List HV) ++ List.replicate (Tryd.f20.ntmps - 1) (.lit undef)) s | none => False) = c20 a0 s Q := by kernel_rfl
theorem HC20 {a0 : HV} {s : HS} {Q : HV → HS → Prop} (h : c20 a0 s Q) : HC Tryd.prog 20 [a0] s Q := HC_by Tryd.func20 (by have := c20_eq a0 s Q; exact this.mpr h)
/-- cordwain/cordwainlaw17.awake -/
def c8 (s : HS) (Q : HV → HS → Prop) : Prop :=
  HC Tryd.prog 9 [(.lit (.int .i64 10)), (.lit (.int .i64 5)), (.lit (.int .i64 0)), (.lit (.bool false))] s (fun r1 s2 => bindO (vExtract r1 0) fun x3 => bindO (vExtract r1 1) fun x4 => HC Tryd.prog 9 [(.lit (.int .i64 0)), (.lit (.int .i64 5)), (.lit (.int .i64 0)), (.lit (.bool false))] s2 (fun r5 s6 => bindO (vExtract r5 0) fun x7 => bindO (vExtract r5 1) fun x8 => Join (fun K9 => bindO (vCmp (Tryd.prog.underlying 24) .neq x4 (.lit (.int .i64 0))) fun x12 => hcond x12 (K9 [(.lit (.bool true))] s6) (bindO (vCmp (Tryd.prog.underlying 23) .eql x3 (.lit (.pointer none))) fun x13 => hcond x13 (K9 [(.lit (.bool true))] s6) (bindO (vCmp (Tryd.prog.underlying 24) .neq x8 (.lit (.int .i64 1))) fun x14 => K9 [x14] s6))) (fun y10 s11 => hcond (y10.headD .junk) (Q (.lit (.bool false)) s11) (HC Tryd.prog 20 [(.lit (.int .i64 3))] s11 (fun r15 s16 => bindO (vExtract r15 0) fun x17 => bindO (vExtract r15 1) fun x18 => hBS s16 1 1 [.lit (.string .empty)] [(0, (.lit (.string { data := #[98] })))] (fun x19 s20 => HC Tryd.prog 10 [x3, (.lit (.string { data := #[] })), x19, x17, (.lit (.int .i64 0))] s20 (fun r21 s22 => bindO (vExtract r21 0) fun x23 => bindO (vExtract r21 1) fun x24 => bindO (vExtract r21 2) fun x25 => HC Tryd.prog 12 [x3, x23, x24, (.lit (.int .i64 0))] s22 (fun r26 s27 => bindO (vExtract r26 0) fun x28 => bindO (vExtract r26 1) fun x29 => bindO (vCmp (Tryd.prog.underlying 9) .eql x23 (.lit (.string { data := #[109, 49] }))) fun x30 => hcond x30 (bindO (vCmp (Tryd.prog.underlying 3) .eql x24 (.lit (.int .i64 1))) fun x31 => hcond x31 (bindO (vCmp (Tryd.prog.underlying 24) .eql x25 (.lit (.int .i64 0))) fun x32 => hcond x32 (bindO (vLenT (Tryd.prog.underlying 34) s27 x28) fun x33 => bindO (vCmp (Tryd.prog.underlying 3) .eql x33 (.lit (.int .i64 3))) fun x34 => hcond x34 (bindO (vCmp (Tryd.prog.underlying 24) .eql x29 (.lit (.int .i64 0))) fun x35 => hcond x35 (HC Tryd.prog 14 [x3] s27 (fun r36 s37 => bindO (vCmp (Tryd.prog.underlying 3) .eql r36 (.lit (.int .i64 4))) fun x38 => hcond x38 (HC Tryd.prog 16 [x3, (.lit (.string { data := #[109, 49] })), (.lit (.int .i64 2)), (.lit (.int .i64 0))] s37 (fun r39 s40 => bindO (vCmp (Tryd.prog.underlying 24) .eql r39 (.lit (.int .i64 12))) fun x41 => Q x41 s40)) (Q (.lit (.bool false)) s37))) (Q (.lit (.bool false)) s27)) (Q (.lit (.bool false)) s27)) (Q (.lit (.bool false)) s27)) (Q (.lit (.bool false)) s27)) (Q (.lit (.bool false)) s27)))))))))
theorem c8_eq (s : HS) (Q : HV → HS → Prop) : (match Tryd.f8.body with | some c => hwp Tryd.prog (fun p => if p = 30 then some [29] else none) false 1 c (hretQ Tryd.prog Tryd.f8.results.toList Q) (([] : List HV) ++ List.replicate (Tryd.f8.ntmps - 0) (.lit undef)) s | none => False) = c8 s Q := by kernel_rfl
theorem HC8 {s : HS} {Q : HV → HS → Prop} (h : c8 s Q) : HC Tryd.prog 8 [] s Q := HC_by Tryd.func8 (by have := c8_eq s Q; exact this.mpr h)
/-- (*cordwain/group.Group).Members -/
def c11 (a0 : HV) (s : HS) (Q : HV → HS → Prop) : Prop :=
  bindO (vCmp (Tryd.prog.underlying 23) .eql a0 (.lit (.pointer none))) fun x1 => hcond x1 (Q (.lit (.slice none 0 0)) s) (bindO (vNil a0) fun x2 => bindO (vField 9 x2) fun x3 => bindO (vLoad s x3 1 false) fun x4 => bindO (vLenT (Tryd.prog.underlying 66) s x4) fun x5 => HLoop (fun y7 s8 K6 => bindO (vBin .lss (y7.tail.headD .junk) x5) fun x9 => hcond x9 (bindO (vIdx 1 x4 (y7.tail.headD .junk)) fun x10 => bindO (vLoad s8 x10 1 false) fun x11 => bindO (vNil x11) fun x12 => bindO (vField 0 x12) fun x13 => bindO (vLoad s8 x13 1 false) fun x14 => hBS s8 1 1 [.lit (.string .empty)] [(0, x14)] (fun x15 s16 => hAppend s16 1 16 (y7.headD .junk) x15 (fun x17 s18 => bindO (vBin .add (y7.tail.headD .junk) (.lit (.int .i64 1))) fun x19 => K6 [x17, x19] s18))) (Q (y7.headD .junk) s8)) [(.lit (.slice none 0 0)), (.lit (.int .i64 0))] s)
theorem c11_eq (a0 : HV) (s : HS) (Q : HV → HS → Prop) : (match Tryd.f11.body with | some c => hwp Tryd.prog (fun p => if p = 58 then some [2, 12] else none) false 1 c (hretQ Tryd.prog Tryd.f11.results.toList Q) (([a0] : List HV) ++ List.replicate (Tryd.f11.ntmps - 1) (.lit undef)) s | none => False) = c11 a0 s Q := by kernel_rfl
theorem HC11 {a0 : HV} {s : HS} {Q : HV → HS → Prop} (h : c11 a0 s Q) : HC Tryd.prog 11 [a0] s Q := HC_by Tryd.func11 (by have := c11_eq a0 s Q; exact this.mpr h)
/-- (*cordwain/group.Group).Gen -/
def c13 (a0 : HV) (s : HS) (Q : HV → HS → Prop) : Prop :=
  bindO (vCmp (Tryd.prog.underlying 23) .eql a0 (.lit (.pointer none))) fun x1 => hcond x1 (Q (.lit (.int .i64 0)) s) (bindO (vNil a0) fun x2 => bindO (vField 4 x2) fun x3 => bindO (vLoad s x3 1 false) fun x4 => Q x4 s)
theorem c13_eq (a0 : HV) (s : HS) (Q : HV → HS → Prop) : (match Tryd.f13.body with | some c => hwp Tryd.prog (fun p => none) false 1 c (hretQ Tryd.prog Tryd.f13.results.toList Q) (([a0] : List HV) ++ List.replicate (Tryd.f13.ntmps - 1) (.lit undef)) s | none => False) = c13 a0 s Q := by kernel_rfl
theorem HC13 {a0 : HV} {s : HS} {Q : HV → HS → Prop} (h : c13 a0 s Q) : HC Tryd.prog 13 [a0] s Q := HC_by Tryd.func13 (by have := c13_eq a0 s Q; exact this.mpr h)
/-- cordwain/cordwainref1.Has -/
def c18 (a0 a1 : HV) (s : HS) (Q : HV → HS → Prop) : Prop :=
  HLoop (fun y2 s3 K1 => bindO (vLenT (Tryd.prog.underlying 32) s3 a0) fun x4 => bindO (vBin .lss (y2.headD .junk) x4) fun x5 => hcond x5 (bindO (vIdx 1 a0 (y2.headD .junk)) fun x6 => bindO (vLoad s3 x6 1 false) fun x7 => bindO (vCmp (Tryd.prog.underlying 9) .eql x7 a1) fun x8 => hcond x8 (Q (.lit (.bool true)) s3) (bindO (vBin .add (y2.headD .junk) (.lit (.int .i64 1))) fun x9 => K1 [x9] s3)) (Q (.lit (.bool false)) s3)) [(.lit (.int .i64 0))] s
theorem c18_eq (a0 a1 : HV) (s : HS) (Q : HV → HS → Prop) : (match Tryd.f18.body with | some c => hwp Tryd.prog (fun p => if p = 26 then some [5] else none) false 1 c (hretQ Tryd.prog Tryd.f18.results.toList Q) (([a0, a1] : List HV) ++ List.replicate (Tryd.f18.ntmps - 2) (.lit undef)) s | none => False) = c18 a0 a1 s Q := by kernel_rfl
theorem HC18 {a0 a1 : HV} {s : HS} {Q : HV → HS → Prop} (h : c18 a0 a1 s Q) : HC Tryd.prog 18 [a0, a1] s Q := HC_by Tryd.func18 (by have := c18_eq a0 a1 s Q; exact this.mpr h)
/-- cordwain/cordwainlaw17.GroupSessions -/
def c3 (a0 a1 a2 : HV) (s : HS) (Q : HV → HS → Prop) : Prop :=
  Join (fun K1 => bindO (vBin .lss a0 (.lit (.int .i64 2))) fun x4 => hcond x4 (K1 [(.lit (.bool true))] s) (bindO (vBin .gtr a0 (.lit (.int .i64 10))) fun x5 => hcond x5 (K1 [(.lit (.bool true))] s) (bindO (vBin .lss a1 (.lit (.int .i64 3))) fun x6 => hcond x6 (K1 [(.lit (.bool true))] s) (bindO (vBin .gtr a1 (.lit (.int .i64 50))) fun x7 => K1 [x7] s)))) (fun y2 s3 => hcond (y2.headD .junk) (HC Tryd.prog 8 [] s3 (fun r8 s9 => Q r8 s9)) (HC Tryd.prog 9 [a1, (.lit (.int .i64 2)), (.lit (.int .i64 0)), (.lit (.bool true))] s3 (fun r10 s11 => bindO (vExtract r10 0) fun x12 => bindO (vExtract r10 1) fun x13 => Join (fun K14 => bindO (vCmp (Tryd.prog.underlying 24) .neq x13 (.lit (.int .i64 0))) fun x17 => hcond x17 (K14 [(.lit (.bool true))] s11) (bindO (vCmp (Tryd.prog.underlying 23) .eql x12 (.lit (.pointer none))) fun x18 => K14 [x18] s11)) (fun y15 s16 => hcond (y15.headD .junk) (Q (.lit (.bool false)) s16) (bindO (vMk [(0, 1), (1, 1)] [.lit (.string .empty), .lit (.int .i64 0)] [(0, (.lit (.string { data := #[97] }))), (1, (.lit (.int .i64 12)))]) fun x19 => hBS s16 2 1 [.lit (.string .empty), .lit (.int .i64 0)] [(0, x19)] (fun x20 s21 => HLoop (fun y23 s24 K22 => bindO (vBin .lss (y23.headD .junk) a0) fun x25 => hcond x25 (hBS s24 1 1 [.lit (.string .empty)] [(0, (.lit (.string { data := #[97] })))] (fun x26 s27 => HC Tryd.prog 10 [x12, (.lit (.string { data := #[] })), x26, x20, (.lit (.int .i64 0))] s27 (fun r28 s29 => bindO (vBin .add (y23.headD .junk) (.lit (.int .i64 1))) fun x30 => K22 [x30] s29))) (HLoop (fun y32 s33 K31 => bindO (vBin .lss (y32.headD .junk) (.lit (.int .i64 2))) fun x34 => hcond x34 (HC Tryd.prog 11 [x12] s33 (fun r35 s36 => HLoop (fun y38 s39 K37 => bindO (vLenT (Tryd.prog.underlying 32) s39 r35) fun x40 => bindO (vBin .lss (y38.headD .junk) x40) fun x41 => hcond x41 (bindO (vIdx 1 r35 (y38.headD .junk)) fun x42 => bindO (vLoad s39 x42 1 false) fun x43 => hBS s39 1 1 [.lit (.string .empty)] [(0, (.lit (.string { data := #[97] })))] (fun x44 s45 => HC Tryd.prog 10 [x12, x43, x44, x20, (.lit (.int .i64 0))] s45 (fun r46 s47 => bindO (vBin .add (y38.headD .junk) (.lit (.int .i64 1))) fun x48 => K37 [x48] s47))) (bindO (vBin .add (y32.headD .junk) (.lit (.int .i64 1))) fun x49 => K31 [x49] s39)) [(.lit (.int .i64 0))] s36)) (HC Tryd.prog 11 [x12] s33 (fun r50 s51 => bindO (vLenT (Tryd.prog.underlying 32) s51 r50) fun x52 => bindO (vCmp (Tryd.prog.underlying 3) .neq x52 a0) fun x53 => hcond x53 (Q (.lit (.bool false)) s51) (HLoop (fun y55 s56 K54 => bindO (vBin .lss (y55.headD .junk) a0) fun x57 => hcond x57 (bindO (vIdx 1 r50 (y55.headD .junk)) fun x58 => bindO (vLoad s56 x58 1 false) fun x59 => HC Tryd.prog 13 [x12] s56 (fun r60 s61 => (vLoad s61 x58 1 false = vLoad s56 x58 1 false ∧ HC Tryd.prog 12 [x12, x59, r60, (.lit (.int .i64 0))] s61 (fun r62 s63 => bindO (vBin .add (y55.headD .junk) (.lit (.int .i64 1))) fun x64 => K54 [x64] s63)))) (HC Tryd.prog 14 [x12] s56 (fun r65 s66 => bindO (vCmp (Tryd.prog.underlying 3) .neq r65 (.lit (.int .i64 4))) fun x67 => hcond x67 (Q (.lit (.bool false)) s66) (HC Tryd.prog 13 [x12] s66 (fun r68 s69 => HC Tryd.prog 15 [a2, a0] s69 (fun r70 s71 => bindO (vIdx 1 r50 r70) fun x72 => bindO (vLoad s71 x72 1 false) fun x73 => HLoop (fun y75 s76 K74 => bindO (vBin .leq (y75.headD .junk) a1) fun x77 => hcond x77 (HLoop (fun y79 s80 K78 => bindO (vBin .lss (y79.headD .junk) a0) fun x81 => hcond x81 (Join (fun K82 => bindO (vIdx 1 r50 (y79.headD .junk)) fun x85 => bindO (vLoad s80 x85 1 false) fun x86 => bindO (vCmp (Tryd.prog.underlying 9) .neq x86 x73) fun x87 => hcond x87 (bindO (vIdx 1 r50 (y79.headD .junk)) fun x88 => bindO (vLoad s80 x88 1 false) fun x89 => HC Tryd.prog 16 [x12, x89, r68, (y75.headD .junk)] s80 (fun r90 s91 => bindO (vCmp (Tryd.prog.underlying 24) .neq r90 (.lit (.int .i64 0))) fun x92 => K82 [x92] s91)) (K82 [(.lit (.bool false))] s80)) (fun y83 s84 => hcond (y83.headD .junk) (Q (.lit (.bool false)) s84) (bindO (vBin .add (y79.headD .junk) (.lit (.int .i64 1))) fun x93 => K78 [x93] s84))) (HC Tryd.prog 17 [x12, x20, (y75.headD .junk)] s80 (fun r94 s95 => Join (fun K96 => HC Tryd.prog 11 [x12] s95 (fun r99 s100 => bindO (vLenT (Tryd.prog.underlying 32) s100 r99) fun x101 => bindO (vCmp (Tryd.prog.underlying 3) .neq x101 a0) fun x102 => hcond x102 (K96 [(.lit (.bool true))] s100) (HC Tryd.prog 14 [x12] s100 (fun r103 s104 => bindO (vCmp (Tryd.prog.underlying 3) .neq r103 (.lit (.int .i64 4))) fun x105 => K96 [x105] s104)))) (fun y97 s98 => hcond (y97.headD .junk) (Q (.lit (.bool false)) s98) (bindO (vBin .add (y75.headD .junk) (.lit (.int .i64 1))) fun x106 => K74 [x106] s98))))) [(.lit (.int .i64 0))] s76) (bindO (vBin .add a1 (.lit (.int .i64 1))) fun x107 => HC Tryd.prog 17 [x12, x20, x107] s76 (fun r108 s109 => Join (fun K110 => HC Tryd.prog 11 [x12] s109 (fun r113 s114 => HC Tryd.prog 18 [r113, x73] s114 (fun r115 s116 => hcond r115 (K110 [(.lit (.bool true))] s116) (HC Tryd.prog 11 [x12] s116 (fun r117 s118 => bindO (vLenT (Tryd.prog.underlying 32) s118 r117) fun x119 => bindO (vBin .sub a0 (.lit (.int .i64 1))) fun x120 => bindO (vCmp (Tryd.prog.underlying 3) .neq x119 x120) fun x121 => hcond x121 (K110 [(.lit (.bool true))] s118) (HC Tryd.prog 14 [x12] s118 (fun r122 s123 => bindO (vCmp (Tryd.prog.underlying 3) .neq r122 (.lit (.int .i64 2))) fun x124 => hcond x124 (K110 [(.lit (.bool true))] s123) (bindO (vBin .add a1 (.lit (.int .i64 1))) fun x125 => HC Tryd.prog 16 [x12, x73, r68, x125] s123 (fun r126 s127 => bindO (vCmp (Tryd.prog.underlying 24) .neq r126 (.lit (.int .i64 13))) fun x128 => K110 [x128] s127))))))))) (fun y111 s112 => hcond (y111.headD .junk) (Q (.lit (.bool false)) s112) (HC Tryd.prog 11 [x12] s112 (fun r129 s130 => HLoop (fun y132 s133 K131 => bindO (vLenT (Tryd.prog.underlying 32) s133 r129) fun x134 => bindO (vBin .lss (y132.headD .junk) x134) fun x135 => hcond x135 (bindO (vIdx 1 r129 (y132.headD .junk)) fun x136 => bindO (vLoad s133 x136 1 false) fun x137 => hBS s133 1 1 [.lit (.string .empty)] [(0, (.lit (.string { data := #[97] })))] (fun x138 s139 => bindO (vBin .add a1 (.lit (.int .i64 1))) fun x140 => HC Tryd.prog 10 [x12, x137, x138, x20, x140] s139 (fun r141 s142 => bindO (vBin .add (y132.headD .junk) (.lit (.int .i64 1))) fun x143 => K131 [x143] s142))) (HLoop (fun y145 s146 K144 => bindO (vLenT (Tryd.prog.underlying 32) s146 r129) fun x147 => bindO (vBin .lss (y145.tail.headD .junk) x147) fun x148 => hcond x148 (bindO (vIdx 1 r129 (y145.tail.headD .junk)) fun x149 => bindO (vLoad s146 x149 1 false) fun x150 => bindO (vBin .add r68 (.lit (.int .i64 1))) fun x151 => bindO (vBin .add a1 (.lit (.int .i64 1))) fun x152 => HC Tryd.prog 12 [x12, x150, x151, x152] s146 (fun r153 s154 => bindO (vExtract r153 0) fun x155 => bindO (vExtract r153 1) fun x156 => bindO (vCmp (Tryd.prog.underlying 24) .neq x156 (.lit (.int .i64 0))) fun x157 => hcond x157 (Q (.lit (.bool false)) s154) (bindO (vLenT (Tryd.prog.underlying 34) s154 x155) fun x158 => bindO (vBin .add (y145.headD .junk) x158) fun x159 => bindO (vBin .add (y145.tail.headD .junk) (.lit (.int .i64 1))) fun x160 => K144 [x159, x160] s154))) (bindO (vCmp (Tryd.prog.underlying 3) .eql (y145.headD .junk) (.lit (.int .i64 12))) fun x161 => hcond x161 (HC Tryd.prog 13 [x12] s146 (fun r162 s163 => bindO (vBin .add r68 (.lit (.int .i64 1))) fun x164 => bindO (vCmp (Tryd.prog.underlying 3) .eql r162 x164) fun x165 => hcond x165 (HC Tryd.prog 14 [x12] s163 (fun r166 s167 => bindO (vCmp (Tryd.prog.underlying 3) .eql r166 (.lit (.int .i64 4))) fun x168 => bindO (vPick x168 (.lit (.bool true)) (.lit (.bool false))) fun x169 => hcond x169 (HC Tryd.prog 8 [] s167 (fun r170 s171 => Q r170 s171)) (Q (.lit (.bool false)) s167))) (Q (.lit (.bool false)) s163))) (Q (.lit (.bool false)) s146))) [(.lit (.int .i64 0)), (.lit (.int .i64 0))] s133)) [(.lit (.int .i64 0))] s130)))))) [(.lit (.int .i64 1))] s71)))))) [(.lit (.int .i64 0))] s51)))) [(.lit (.int .i64 0))] s24)) [(.lit (.int .i64 0))] s21))))))
theorem c3_eq (a0 a1 a2 : HV) (s : HS) (Q : HV → HS → Prop) : (match Tryd.f3.body with | some c => hwp Tryd.prog (fun p => if p = 6 then some [39] else if p = 30 then some [51] else if p = 506 then some [10] else if p = 1018 then some [11] else if p = 8186 then some [15] else if p = 130342 then some [13] else if p = 131066 then some [18] else if p = 131070 then some [184] else if p = 2097146 then some [21] else if p = 8388243 then some [153] else if p = 8388602 then some [22, 23] else if p = 16776482 then some [19] else if p = 268423716 then some [139] else none) false 1 c (hretQ Tryd.prog Tryd.f3.results.toList Q) (([a0, a1, a2] : List HV) ++ List.replicate (Tryd.f3.ntmps - 3) (.lit undef)) s | none => False) = c3 a0 a1 a2 s Q := by kernel_rfl
theorem HC3 {a0 a1 a2 : HV} {s : HS} {Q : HV → HS → Prop} (h : c3 a0 a1 a2 s Q) : HC Tryd.prog 3 [a0, a1, a2] s Q := HC_by Tryd.func3 (by have := c3_eq a0 a1 a2 s Q; exact this.mpr h)
/-- cordwain/cordwainlaw17.GroupOnce -/
def c4 (a0 a1 a2 : HV) (s : HS) (Q : HV → HS → Prop) : Prop :=
  HC Tryd.prog 19 [a2] s (fun r1 s2 => bindO (vUn .not r1) fun x3 => hcond x3 (HC Tryd.prog 8 [] s2 (fun r4 s5 => Q r4 s5)) (HC Tryd.prog 9 [(.lit (.int .i64 20)), (.lit (.int .i64 10)), (.lit (.int .i64 0)), a1] s2 (fun r6 s7 => bindO (vExtract r6 0) fun x8 => bindO (vExtract r6 1) fun x9 => Join (fun K10 => bindO (vCmp (Tryd.prog.underlying 24) .neq x9 (.lit (.int .i64 0))) fun x13 => hcond x13 (K10 [(.lit (.bool true))] s7) (bindO (vCmp (Tryd.prog.underlying 23) .eql x8 (.lit (.pointer none))) fun x14 => K10 [x14] s7)) (fun y11 s12 => hcond (y11.headD .junk) (Q (.lit (.bool false)) s12) (HC Tryd.prog 20 [a0] s12 (fun r15 s16 => bindO (vExtract r15 0) fun x17 => bindO (vExtract r15 1) fun x18 => HLoop (fun y20 s21 K19 => bindO (vLenT (Tryd.prog.underlying 43) s21 a2) fun x22 => bindO (vBin .lss (y20.tail.tail.headD .junk) x22) fun x23 => hcond x23 (bindO (vIdx 5 a2 (y20.tail.tail.headD .junk)) fun x24 => bindO (vLoad s21 x24 5 true) fun x25 => hNew s21 (.cells [.lit (.int .i64 0), .lit (.string .empty), .lit (.slice none 0 0), .lit (.int .i64 0), .lit (.int .i64 0)]) (fun id => .ptr id 0) (fun x26 s27 => hStore s27 x26 x25 5 (fun s28 => bindO (vField 4 x26) fun x29 => bindO (vLoad s28 x29 1 false) fun x30 => HC Tryd.prog 15 [x30, (.lit (.int .i64 15))] s28 (fun r31 s32 => bindO (vBin .add (y20.tail.headD .junk) r31) fun x33 => Join (fun K34 => bindO (vField 0 x26) fun x37 => bindO (vLoad s32 x37 1 false) fun x38 => bindO (vCmp (Tryd.prog.underlying 3) .eql x38 (.lit (.int .i64 1))) fun x39 => hcond x39 (bindO (vField 1 x26) fun x40 => bindO (vLoad s32 x40 1 false) fun x41 => bindO (vField 2 x26) fun x42 => bindO (vLoad s32 x42 1 false) fun x43 => HC Tryd.prog 10 [x8, x41, x43, x17, x33] s32 (fun r44 s45 => K34 [] s45)) (bindO (vCmp (Tryd.prog.underlying 3) .eql x38 (.lit (.int .i64 4))) fun x46 => hcond x46 (bindO (vField 1 x26) fun x47 => bindO (vLoad s32 x47 1 false) fun x48 => HC Tryd.prog 21 [x8, x48, x17, x33] s32 (fun r49 s50 => K34 [] s50)) (bindO (vCmp (Tryd.prog.underlying 3) .eql x38 (.lit (.int .i64 5))) fun x51 => hcond x51 (HC Tryd.prog 17 [x8, x17, x33] s32 (fun r52 s53 => K34 [] s53)) (K34 [] s32)))) (fun y35 s36 => HC Tryd.prog 11 [x8] s36 (fun r54 s55 => HLoop (fun y57 s58 K56 => bindO (vLenT (Tryd.prog.underlying 32) s58 r54) fun x59 => bindO (vBin .lss (y57.tail.headD .junk) x59) fun x60 => hcond x60 (Join (fun K61 => HC Tryd.prog 13 [x8] s58 (fun r64 s65 => bindO (vField 3 x26) fun x66 => bindO (vLoad s65 x66 1 false) fun x67 => HC Tryd.prog 15 [x67, (.lit (.int .i64 3))] s65 (fun r68 s69 => bindO (vBin .rem (y57.tail.headD .junk) (.lit (.int .i64 3))) fun x70 => bindO (vCmp (Tryd.prog.underlying 3) .eql r68 x70) fun x71 => hcond x71 (K61 [(y57.headD .junk)] s69) (bindO (vIdx 1 r54 (y57.tail.headD .junk)) fun x72 => bindO (vLoad s69 x72 1 false) fun x73 => HC Tryd.prog 12 [x8, x73, r64, x33] s69 (fun r74 s75 => bindO (vExtract r74 0) fun x76 => bindO (vExtract r74 1) fun x77 => HLoop (fun y79 s80 K78 => Join (fun K81 => bindO (vLenT (Tryd.prog.underlying 34) s80 x76) fun x84 => bindO (vBin .lss (y79.tail.headD .junk) x84) fun x85 => hcond x85 (bindO (vCmp (Tryd.prog.underlying 24) .eql x77 (.lit (.int .i64 0))) fun x86 => K81 [x86] s80) (K81 [(.lit (.bool false))] s80)) (fun y82 s83 => hcond (y82.headD .junk) (bindO (vIdx 1 r54 (y57.tail.headD .junk)) fun x87 => bindO (vLoad s83 x87 1 false) fun x88 => bindO (vIdx 2 x76 (y79.tail.headD .junk)) fun x89 => bindO (vLoad s83 x89 2 true) fun x90 => bindO (vMk [(0, 1), (1, 1), (2, 2)] [.lit (.int .i64 0), .lit (.string .empty), .lit (.string .empty), .lit (.int .i64 0)] [(0, r64), (1, x88), (2, x90)]) fun x91 => hBS s83 4 1 [.lit (.int .i64 0), .lit (.string .empty), .lit (.string .empty), .lit (.int .i64 0)] [(0, x91)] (fun x92 s93 => hAppend s93 4 48 (y79.headD .junk) x92 (fun x94 s95 => bindO (vBin .add (y79.tail.headD .junk) (.lit (.int .i64 1))) fun x96 => K78 [x94, x96] s95))) (K61 [(y79.headD .junk)] s83))) [(y57.headD .junk), (.lit (.int .i64 0))] s75))))) (fun y62 s63 => bindO (vBin .add (y57.tail.headD .junk) (.lit (.int .i64 1))) fun x97 => K56 [(y62.headD .junk), x97] s63)) (bindO (vBin .add (y20.tail.tail.headD .junk) (.lit (.int .i64 1))) fun x98 => K19 [(y57.headD .junk), x33, x98] s58)) [(y20.headD .junk), (.lit (.int .i64 0))] s55)))))) (HLoop (fun y100 s101 K99 => bindO (vLenT (Tryd.prog.underlying 48) s101 (y20.headD .junk)) fun x102 => bindO (vBin .lss (y100.headD .junk) x102) fun x103 => hcond x103 (HLoop (fun y105 s106 K104 => bindO (vBin .lss (y105.headD .junk) (y100.headD .junk)) fun x107 => hcond x107 (Join (fun K108 => bindO (vIdx 4 (y20.headD .junk) (y100.headD .junk)) fun x111 => bindO (vField 0 x111) fun x112 => bindO (vLoad s106 x112 1 false) fun x113 => bindO (vIdx 4 (y20.headD .junk) (y105.headD .junk)) fun x114 => bindO (vField 0 x114) fun x115 => bindO (vLoad s106 x115 1 false) fun x116 => bindO (vCmp (Tryd.prog.underlying 3) .eql x113 x116) fun x117 => hcond x117 (bindO (vIdx 4 (y20.headD .junk) (y100.headD .junk)) fun x118 => bindO (vField 2 x118) fun x119 => bindO (vLoad s106 x119 2 true) fun x120 => bindO (vIdx 4 (y20.headD .junk) (y105.headD .junk)) fun x121 => bindO (vField 2 x121) fun x122 => bindO (vLoad s106 x122 2 true) fun x123 => bindO (vCmpS [.string, (.int .i64)] .eql x120 x123) fun x124 => hcond x124 (bindO (vIdx 4 (y20.headD .junk) (y100.headD .junk)) fun x125 => bindO (vField 1 x125) fun x126 => bindO (vLoad s106 x126 1 false) fun x127 => bindO (vIdx 4 (y20.headD .junk) (y105.headD .junk)) fun x128 => bindO (vField 1 x128) fun x129 => bindO (vLoad s106 x129 1 false) fun x130 => bindO (vCmp (Tryd.prog.underlying 9) .neq x127 x130) fun x131 => K108 [x131] s106) (K108 [(.lit (.bool false))] s106)) (K108 [(.lit (.bool false))] s106)) (fun y109 s110 => hcond (y109.headD .junk) (Q (.lit (.bool false)) s110) (bindO (vBin .add (y105.headD .junk) (.lit (.int .i64 1))) fun x132 => K104 [x132] s110))) (bindO (vBin .add (y100.headD .junk) (.lit (.int .i64 1))) fun x133 => K99 [x133] s106)) [(.lit (.int .i64 0))] s101) (HC Tryd.prog 8 [] s101 (fun r134 s135 => Q r134 s135))) [(.lit (.int .i64 0))] s21)) [(.lit (.slice none 0 0)), (.lit (.int .i64 0)), (.lit (.int .i64 0))] s16))))))
/-- cordwain/assign.Slots$1 -/
def c74 (a0 a1 : HV) (s : HS) (Q : HV → HS → Prop) : Prop :=
  bindO (vLoad s a1 1 false) fun x1 => HC Tryd.prog 38 [x1] s (fun r2 s3 => HC Tryd.prog 75 [r2, (.func (.func 76) [])] s3 (fun r4 s5 => bindO (vLenT (Tryd.prog.underlying 29) s5 r2) fun x6 => HLoop (fun y8 s9 K7 => bindO (vBin .lss (y8.headD .junk) x6) fun x10 => hcond x10 (bindO (vIdx 2 r2 (y8.headD .junk)) fun x11 => bindO (vLoad s9 x11 2 true) fun x12 => hNew s9 (.cells [.lit (.string .empty), .lit (.int .i64 0)]) (fun id => .ptr id 0) (fun x13 s14 => hStore s14 x13 x12 2 (fun s15 => bindO (vField 1 x13) fun x16 => bindO (vLoad s15 x16 1 false) fun x17 => bindO (hfold vMax2 x17 [(.lit (.int .i64 0))]) fun x18 => HLoop (fun y20 s21 K19 => bindO (vBin .lss (y20.headD .junk) x18) fun x22 => hcond x22 (bindO (vField 0 x13) fun x23 => bindO (vLoad s21 x23 1 false) fun x24 => bindO (vMk [(0, 1), (1, 1)] [.lit (.string .empty), .lit (.int .i64 0)] [(0, x24), (1, (y20.headD .junk))]) fun x25 => hcall Tryd.prog a0 [x25] s21 (fun r26 s27 => bindO (vUn .not r26) fun x28 => hcond x28 (Q (.tup []) s27) (bindO (vBin .add (y20.headD .junk) (.lit (.int .i64 1))) fun x29 => K19 [x29] s27))) (bindO (vBin .add (y8.headD .junk) (.lit (.int .i64 1))) fun x30 => K7 [x30] s21)) [(.lit (.int .i64 0))] s15))) (Q (.tup []) s9)) [(.lit (.int .i64 0))] s5))
theorem c74_eq (a0 a1 : HV) (s : HS) (Q : HV → HS → Prop) : (match Tryd.f74.body with | some c => hwp Tryd.prog (fun p => if p = 30 then some [13] else if p = 7782 then some [20] else none) false 1 c (hretQ Tryd.prog Tryd.f74.results.toList Q) (([a0, a1] : List HV) ++ List.replicate (Tryd.f74.ntmps - 2) (.lit undef)) s | none => False) = c74 a0 a1 s Q := by kernel_rfl
theorem HC74 {a0 a1 : HV} {s : HS} {Q : HV → HS → Prop} (h : c74 a0 a1 s Q) : HC Tryd.prog 74 [a0, a1] s Q := HC_by Tryd.func74 (by have := c74_eq a0 a1 s Q; exact this.mpr h)
/-- cordwain/assign.Slots$1$1 -/
def c76 (a0 a1 : HV) (s : HS) (Q : HV → HS → Prop) : Prop :=
  hBox s a0 (fun x1 s2 => hBox s2 a1 (fun x3 s4 => bindO (vField 0 x1) fun x5 => bindO (vLoad s4 x5 1 false) fun x6 => bindO (vField 0 x3) fun x7 => bindO (vLoad s4 x7 1 false) fun x8 => HC Tryd.prog 77 [x6, x8] s4 (fun r9 s10 => Q r9 s10)))
theorem c76_eq (a0 a1 : HV) (s : HS) (Q : HV → HS → Prop) : (match Tryd.f76.body with | some c => hwp Tryd.prog (fun p => none) false 1 c (hretQ Tryd.prog Tryd.f76.results.toList Q) (([a0, a1] : List HV) ++ List.replicate (Tryd.f76.ntmps - 2) (.lit undef)) s | none => False) = c76 a0 a1 s Q := by kernel_rfl
theorem HC76 {a0 a1 : HV} {s : HS} {Q : HV → HS → Prop} (h : c76 a0 a1 s Q) : HC Tryd.prog 76 [a0, a1] s Q := HC_by Tryd.func76 (by have := c76_eq a0 a1 s Q; exact this.mpr h)
end Go.Proofs.YtkcgokkgefgcjaaDoor.G0
end
section
namespace Go.Proofs.YtkcgokkgefgcjaaDoor.G1
open Go.Proofs.YtkcgokkgefgcjaaDoor.H
set_option linter.unusedVariables false
set_option maxRecDepth 100000
/-- cordwain/assign.Slots$1 -/
def c74 (a0 a1 : HV) (s : HS) (Q : HV → HS → Prop) : Prop :=
  bindO (vLoad s a1 1 false) fun x1 => HC Tryd.prog 38 [x1] s (fun r2 s3 => HC Tryd.prog 75 [r2, (.func (.func 76) [])] s3 (fun r4 s5 => JoinU (fun K6 => bindO (vLenT (Tryd.prog.underlying 29) s5 r2) fun x9 => K6 [r2, x9, (.lit (.int .i64 0))] s5) (fun y7 s8 => HLoop (fun y11 s12 K10 => bindO (vBin .lss (y11.headD .junk) (y7.tail.headD .junk)) fun x13 => hcond x13 (JoinU (fun K14 => bindO (vIdx 2 (y7.headD .junk) (y11.headD .junk)) fun x17 => bindO (vLoad s12 x17 2 true) fun x18 => hNew s12 (.cells [.lit (.string .empty), .lit (.int .i64 0)]) (fun id => .ptr id 0) (fun x19 s20 => hStore s20 x19 x18 2 (fun s21 => K14 [x19] s21))) (fun y15 s16 => bindO (vField 1 (y15.headD .junk)) fun x22 => bindO (vLoad s16 x22 1 false) fun x23 => bindO (hfold vMax2 x23 [(.lit (.int .i64 0))]) fun x24 => HLoop (fun y26 s27 K25 => bindO (vBin .lss (y26.headD .junk) x24) fun x28 => hcond x28 (bindO (vField 0 (y15.headD .junk)) fun x29 => bindO (vLoad s27 x29 1 false) fun x30 => bindO (vMk [(0, 1), (1, 1)] [.lit (.string .empty), .lit (.int .i64 0)] [(0, x30), (1, (y26.headD .junk))]) fun x31 => hcall Tryd.prog a0 [x31] s27 (fun r32 s33 => bindO (vUn .not r32) fun x34 => hcond x34 (Q (.tup []) s33) (bindO (vBin .add (y26.headD .junk) (.lit (.int .i64 1))) fun x35 => K25 [x35] s33))) (bindO (vBin .add (y11.headD .junk) (.lit (.int .i64 1))) fun x36 => K10 [x36] s27)) [(.lit (.int .i64 0))] s16)) (Q (.tup []) s12)) [(y7.tail.tail.headD .junk)] s8)))
theorem c74_eq (a0 a1 : HV) (s : HS) (Q : HV → HS → Prop) : (match Tryd.f74.body with | some c => hwp Tryd.prog (fun p => if p = 7 then some [1000000, 11, 12, 13] else if p = 30 then some [13] else if p = 972 then some [1000000, 5] else if p = 7782 then some [20] else none) false 1 c (hretQ Tryd.prog Tryd.f74.results.toList Q) (([a0, a1] : List HV) ++ List.replicate (Tryd.f74.ntmps - 2) (.lit undef)) s | none => False) = c74 a0 a1 s Q := by kernel_rfl
theorem HC74 {a0 a1 : HV} {s : HS} {Q : HV → HS → Prop} (h : c74 a0 a1 s Q) : HC Tryd.prog 74 [a0, a1] s Q := HC_by Tryd.func74 (by have := c74_eq a0 a1 s Q; exact this.mpr h)
end Go.Proofs.YtkcgokkgefgcjaaDoor.G1
end
section
namespace Go.Proofs.YtkcgokkgefgcjaaDoor.H
open Go.RowKit Go.MapKept
set_option linter.unusedVariables false
set_option linter.unusedSimpArgs false
variable {P : Program} {s : HS}
def IsTok : HObj → Prop
  | .tok _ _ _ => True
  | _ => False
/-- But for a token, all that t knows t' knows. -/
structure Near (idl : Nat) (t t' : HS) : Prop where
  tok : ∀ ob, t idl = some ob → IsTok ob
  rest : ∀ k ob, k ≠ idl → t k = some ob → t' k = some ob
theorem Near.ob {idl : Nat} {t t' : HS} (h : Near idl t t') {k : Nat} {ob : HObj} (hk : t k = some ob) (ho : ¬ IsTok ob) : t' k = some ob :=
  h.rest k ob (by rintro rfl; exact ho (h.tok _ hk)) hk
theorem Near.cells {idl : Nat} {t t' : HS} (h : Near idl t t') {k : Nat} {cs : List HV} (hk : t k = some (.cells cs)) : t' k = some (.cells cs) := h.ob hk (fun h => h)
theorem Near.map {idl : Nat} {t t' : HS} (h : Near idl t t') {k : Nat} {d : TypeDesc} {f : Value → Option HV} {n : Nat} (hk : t k = some (.map d f n)) : t' k = some (.map d f n) := h.ob hk (fun h => h)
theorem Near.le {idl : Nat} {b t t' : HS} (h : Near idl t t') (hb : HS.le b t) (hn : b idl = none) : HS.le b t' := fun k ob hk => h.rest k ob (by rintro rfl; rw [hn] at hk; cases hk) (hb k ob hk)
theorem Near.acc {idl : Nat} {b t t' : HS} {sz : Nat} {A : HV} {n : Nat} {cs : List HV} (h : Near idl t t') (ha : Acc b t sz A n cs) : Acc b t' sz A n cs := ha.keep fun q ob hq hob => by
  have := (ha.free hq).2
  rw [hob] at this
  cases this
  exact h.cells hob
/-- What a round is given may be told otherwise. -/
theorem HY.upArgs {id : Nat} {args args' : List HV} {s s' : HS} {K : HV → HS → Prop} (hu : UpL args s args' s') (h : HY P id args' s' K) : HY P id args s K := by
  intro m w cargs l hR hl hn ha
  obtain ⟨m', g1, g2, g3, g4⟩ := hu m w cargs.toList hR ⟨by simpa using hn, fun j x hj => by have := ha j x hj; simpa [List.getD, Array.getD_eq_getD_getElem?] using this⟩
  obtain ⟨fn, tmps, asg, body, h1, h2⟩ := h m' w cargs l g2 (g1.loc _ _ hl) (by simpa using g3) (fun j x hj => by have := g4 j x hj; simpa [List.getD, Array.getD_eq_getD_getElem?] using this)
  refine ⟨fn, tmps, asg, body, h1, RoundIn.mono h2 ?_⟩
  rintro e w' ⟨cv, v, s'', m'', k1, k2, k3, k4, k5⟩
  exact ⟨cv, v, s'', m'', k1, g1.trans k2, k3, k4, k5⟩
/-- Function f, which captures caps, gives yield the rows enc 0 .. enc (n-1), one behind the other, till it says no. -/
def Gives (P : Program) (f : FuncId) (caps : List HV) (n : Nat) (enc : Nat → List HV) (s : HS) : Prop :=
  ∀ (idl : Nat) (J : Nat → HS → Prop) (E : HS → Prop) (s' : HS), HS.le s s' → (∀ i t t', J i t → HS.le t t' → J i t') →
    (∀ (i : Nat) (t : HS) (K : HV → HS → Prop), i < n → J i t → (∀ t', J (i + 1) t' → K (.lit (.bool true)) t') → (∀ t', E t' → K (.lit (.bool false)) t') → HY P idl (enc i) t K) →
    J 0 s' → HC P f (.yld idl :: caps) s' fun v t => J n t ∨ E t
theorem Gives.le {f : FuncId} {caps : List HV} {n : Nat} {enc : Nat → List HV} {s' : HS} (h : Gives P f caps n enc s) (hle : HS.le s s') : Gives P f caps n enc s' :=
  fun idl J E s2 h2 => h idl J E s2 (fun k ob hk => h2 k ob (hle k ob hk))
theorem HRange.seq {f : FuncId} {caps env : List HV} {n n1 : Nat} {enc : Nat → List HV} {B : (HS → (HS → Prop) → Prop) → List HV → HS → (Exit → HS → Prop) → Prop} {Qn Qr : HS → Prop} {Qx : Nat → HS → Prop}
    (hp : plainFn P f = true) (it : Gives P f caps n enc s) (hl : ∀ i, i < n → (enc i).length = n1) (I : Nat → HS → Prop) (Er : HS → Prop) (Ex : Nat → HS → Prop)
    (hI : ∀ idl i t t', s idl = none → Near idl t t' → I i t → I i t') (hEr : ∀ idl t t', s idl = none → Near idl t t' → Er t → Er t') (hEx : ∀ idl i t t', s idl = none → Near idl t t' → Ex i t → Ex i t')
    (h0 : I 0 s) (hn : ∀ t, I n t → Qn t) (hr : ∀ t, Er t → Qr t) (hx : ∀ i t, Ex i t → Qx i t)
    (round : ∀ (i : Nat) (t : HS) (idl : Nat) (R0 R1 : HObj) (K : Exit → HS → Prop), i < n → s idl = none → t idl = some R0 → I i t → (∀ t', t' idl = some R1 → I (i + 1) t' → K .normal t') →
      (∀ t', t' idl = some R1 → Er t' → K .ret t') → (∀ j t', t' idl = some R1 → Ex j t' → K (.exit j) t') → IsTok R0 → IsTok R1 → B (fun t' G => t' idl = some R0 ∧ G (t'.set idl R1)) (enc i) t K) :
    HRange P (.func (.func f) caps) n1 env B s Qn Qr Qx := by
  unfold HRange
  simp only
  rw [hite_eq, if_pos hp]
  intro idl r hid hrounds
  have near : ∀ {t t' : HS} {st : Option (Option Code)}, t idl = some (.tok r env st) → (∀ k ob, k ≠ idl → t k = some ob → t' k = some ob) → Near idl t t' := fun h1 h2 => ⟨fun ob ho => by rw [h1] at ho; cases ho; exact True.intro, h2⟩
  have setN : ∀ (t : HS) (o : HObj) k ob, k ≠ idl → t k = some ob → (t.set idl o) k = some ob := fun t o k ob hk h => by simp only [HS.set, if_neg hk]; exact h
  have delN : ∀ (t : HS) k ob, k ≠ idl → t k = some ob → (t.del idl) k = some ob := fun t k ob hk h => by simp only [HS.del, if_neg hk]; exact h
  refine (it idl (fun i t => t idl = some (.tok r env (some none)) ∧ I i t) (fun t => (t idl = some (.tok r env (some (some .ret))) ∧ Er t) ∨ ∃ i, t idl = some (.tok r env (some (some (.exit i)))) ∧ Ex i t) (s.set idl (.tok r env (some none))) ?_ ?_ ?_ ?_).mono ?_
  · intro k ob hk
    exact setN s _ k ob (by rintro rfl; rw [hid] at hk; cases hk) hk
  · rintro i t t' ⟨h1, h2⟩ hle
    exact ⟨hle _ _ h1, hI idl i t t' hid (near h1 fun k ob _ hk => hle k ob hk) h2⟩
  · rintro i t K hi ⟨h1, h2⟩ hT hF
    refine hrounds (enc i) t K h1 (hl i hi) ?_
    refine round i t idl _ _ _ hi hid h1 h2 (fun t' g1 g2 => ⟨g1, ?_⟩) (fun t' g1 g2 => ⟨g1, ?_⟩) (fun j t' g1 g2 => ⟨g1, ?_⟩) True.intro True.intro
    · exact hT _ ⟨by simp [HS.set], hI idl _ _ _ hid (near g1 (setN t' _)) g2⟩
    · exact hF _ (.inl ⟨by simp [HS.set], hEr idl _ _ hid (near g1 (setN t' _)) g2⟩)
    · exact hF _ (.inr ⟨j, by simp [HS.set], hEx idl _ _ _ hid (near g1 (setN t' _)) g2⟩)
  · exact ⟨by simp [HS.set], hI idl 0 s _ hid ⟨fun ob ho => (by rw [hid] at ho; cases ho), setN s _⟩ h0⟩
  · rintro v t (⟨h1, h2⟩ | ⟨h1, h2⟩ | ⟨i, h1, h2⟩)
    · exact .inl ⟨h1, hn _ (hI idl _ _ _ hid (near h1 (delN t)) h2)⟩
    · exact .inr (.inl ⟨h1, hr _ (hEr idl _ _ hid (near h1 (delN t)) h2)⟩)
    · exact .inr (.inr ⟨i, h1, hx _ _ (hEx idl _ _ _ hid (near h1 (delN t)) h2)⟩)
/-- So does it, when what it reads lies still. -/
def GivesL (P : Program) (f : FuncId) (caps : List HV) (n : Nat) (enc : Nat → List HV) (s : HS) : Prop :=
  ∀ (idl : Nat) (J : Nat → HS → Prop) (E : HS → Prop) (s' : HS), HS.le s s' → (∀ i t t', J i t → HS.le t t' → J i t') → (∀ i t, J i t → HS.le s t) →
    (∀ (i : Nat) (t : HS) (K : HV → HS → Prop), i < n → J i t → (∀ t', J (i + 1) t' → K (.lit (.bool true)) t') → (∀ t', E t' → K (.lit (.bool false)) t') → HY P idl (enc i) t K) →
    J 0 s' → HC P f (.yld idl :: caps) s' fun v t => J n t ∨ E t
theorem Gives.toL {f : FuncId} {caps : List HV} {n : Nat} {enc : Nat → List HV} (h : Gives P f caps n enc s) : GivesL P f caps n enc s := fun idl J E s' h1 h2 _ h3 h4 => h idl J E s' h1 h2 h3 h4
theorem HRange.seqL {f : FuncId} {caps env : List HV} {n n1 : Nat} {enc : Nat → List HV} {B : (HS → (HS → Prop) → Prop) → List HV → HS → (Exit → HS → Prop) → Prop} {Qn Qr : HS → Prop} {Qx : Nat → HS → Prop}
    (hp : plainFn P f = true) {s0 : HS} (hs0 : HS.le s0 s) (it : GivesL P f caps n enc s0) (hl : ∀ i, i < n → (enc i).length = n1) (I : Nat → HS → Prop) (Er : HS → Prop) (Ex : Nat → HS → Prop)
    (hIs : ∀ i t, I i t → HS.le s0 t) (hI : ∀ idl i t t', s idl = none → Near idl t t' → I i t → I i t') (hEr : ∀ idl t t', s idl = none → Near idl t t' → Er t → Er t') (hEx : ∀ idl i t t', s idl = none → Near idl t t' → Ex i t → Ex i t')
    (h0 : I 0 s) (hn : ∀ t, I n t → Qn t) (hr : ∀ t, Er t → Qr t) (hx : ∀ i t, Ex i t → Qx i t)
    (round : ∀ (i : Nat) (t : HS) (idl : Nat) (R0 R1 : HObj) (K : Exit → HS → Prop), i < n → s idl = none → t idl = some R0 → I i t → (∀ t', t' idl = some R1 → I (i + 1) t' → K .normal t') →
      (∀ t', t' idl = some R1 → Er t' → K .ret t') → (∀ j t', t' idl = some R1 → Ex j t' → K (.exit j) t') → IsTok R0 → IsTok R1 → B (fun t' G => t' idl = some R0 ∧ G (t'.set idl R1)) (enc i) t K) :
    HRange P (.func (.func f) caps) n1 env B s Qn Qr Qx := by
  unfold HRange
  simp only
  rw [hite_eq, if_pos hp]
  intro idl r hid hrounds
  have near : ∀ {t t' : HS} {st : Option (Option Code)}, t idl = some (.tok r env st) → (∀ k ob, k ≠ idl → t k = some ob → t' k = some ob) → Near idl t t' := fun h1 h2 => ⟨fun ob ho => by rw [h1] at ho; cases ho; exact True.intro, h2⟩
  have setN : ∀ (t : HS) (o : HObj) k ob, k ≠ idl → t k = some ob → (t.set idl o) k = some ob := fun t o k ob hk h => by simp only [HS.set, if_neg hk]; exact h
  have delN : ∀ (t : HS) k ob, k ≠ idl → t k = some ob → (t.del idl) k = some ob := fun t k ob hk h => by simp only [HS.del, if_neg hk]; exact h
  refine (it idl (fun i t => t idl = some (.tok r env (some none)) ∧ I i t) (fun t => (t idl = some (.tok r env (some (some .ret))) ∧ Er t) ∨ ∃ i, t idl = some (.tok r env (some (some (.exit i)))) ∧ Ex i t) (s.set idl (.tok r env (some none))) ?_ ?_ (fun i t h => hIs i t h.2) ?_ ?_).mono ?_
  · intro k ob hk0
    have hk := hs0 k ob hk0
    exact setN s _ k ob (by rintro rfl; rw [hid] at hk; cases hk) hk
  · rintro i t t' ⟨h1, h2⟩ hle
    exact ⟨hle _ _ h1, hI idl i t t' hid (near h1 fun k ob _ hk => hle k ob hk) h2⟩
  · rintro i t K hi ⟨h1, h2⟩ hT hF
    refine hrounds (enc i) t K h1 (hl i hi) ?_
    refine round i t idl _ _ _ hi hid h1 h2 (fun t' g1 g2 => ⟨g1, ?_⟩) (fun t' g1 g2 => ⟨g1, ?_⟩) (fun j t' g1 g2 => ⟨g1, ?_⟩) True.intro True.intro
    · exact hT _ ⟨by simp [HS.set], hI idl _ _ _ hid (near g1 (setN t' _)) g2⟩
    · exact hF _ (.inl ⟨by simp [HS.set], hEr idl _ _ hid (near g1 (setN t' _)) g2⟩)
    · exact hF _ (.inr ⟨j, by simp [HS.set], hEx idl _ _ _ hid (near g1 (setN t' _)) g2⟩)
  · exact ⟨by simp [HS.set], hI idl 0 s _ hid ⟨fun ob ho => (by rw [hid] at ho; cases ho), setN s _⟩ h0⟩
  · rintro v t (⟨h1, h2⟩ | ⟨h1, h2⟩ | ⟨i, h1, h2⟩)
    · exact .inl ⟨h1, hn _ (hI idl _ _ _ hid (near h1 (delN t)) h2)⟩
    · exact .inr (.inl ⟨h1, hr _ (hEr idl _ _ hid (near h1 (delN t)) h2)⟩)
    · exact .inr (.inr ⟨i, h1, hx _ _ (hEx idl _ _ _ hid (near h1 (delN t)) h2)⟩)
end Go.Proofs.YtkcgokkgefgcjaaDoor.H
end
section
namespace Go.Proofs.YtkcgokkgefgcjaaDoor.H
open Go.RowKit Go.MapKept
set_option linter.unusedVariables false
set_option linter.unusedSimpArgs false
theorem put_rows {α : Type} {enc : α → List HV} {sz : Nat} (h : ∀ x, (enc x).length = sz) (v : α) (rest : List HV) : ∀ (l : List α) (i : Nat), i < l.length → putCells (rows enc l ++ rest) (i * sz) (enc v) = rows enc (l.set i v) ++ rest
  | x :: l, 0, _ => by
    simp only [putCells, Nat.zero_mul, List.take_zero, List.nil_append, Nat.zero_add, List.set_cons_zero, rows_cons, h, List.append_assoc]
    rw [List.drop_append, List.drop_of_length_le (by rw [h]; omega), List.nil_append, h, Nat.sub_self, List.drop_zero]
  | x :: l, i + 1, hi => by
    have ih := put_rows h v rest l i (by simpa using hi)
    simp only [putCells, List.set_cons_succ, rows_cons, List.append_assoc] at ih ⊢
    rw [← ih, Nat.add_mul, Nat.one_mul]
    rw [List.take_append, List.take_of_length_le (by rw [h]; omega), h, Nat.add_sub_cancel, List.append_assoc]
    congr 1
    congr 1
    congr 1
    rw [h, List.drop_append, List.drop_of_length_le (by rw [h]; omega), List.nil_append, h]
    congr 1
    omega
theorem idx_view {q off sz n : Nat} {f : Bool} {i : Nat} (k : IntKind) (hi : i < n) : vIdx sz (.view q off sz n f) (.lit (.int k i)) = some (.ptr q (off + i * sz)) := by
  have h1 : (i : Int) < (n : Int) := by omega
  simp [vIdx, h1]
theorem load_rows {α : Type} {enc : α → List HV} {sz : Nat} (h : ∀ x, (enc x).length = sz) (z : α) {s : HS} {q : Nat} {l : List α} {rest : List HV} (hq : s q = some (.cells (rows enc l ++ rest))) {i : Nat} (hi : i < l.length) :
    vLoad s (.ptr q (i * sz)) sz true = some (.agg (enc (l.getD i z))) := by
  have hl : (rows enc l).length = l.length * sz := rows_len h l
  have h2 : i * sz + sz ≤ l.length * sz := by
    have := Nat.mul_le_mul_right sz (show i + 1 ≤ l.length from hi)
    rw [Nat.add_mul, Nat.one_mul] at this
    exact this
  have h3 : ((rows enc l ++ rest).drop (i * sz)).take sz = enc (l.getD i z) := by
    rw [List.drop_append_of_le_length (by omega), List.take_append_of_le_length (by simp; omega)]
    exact rows_idx h z l i hi
  simp only [vLoad, hq, takeCells, if_true, h3]
  rw [if_pos (by rw [List.length_append]; omega)]
theorem load_rows1 {α : Type} {enc : α → List HV} {sz : Nat} (h : ∀ x, (enc x).length = sz) (z : α) {s : HS} {q : Nat} {l : List α} {rest : List HV} (hq : s q = some (.cells (rows enc l ++ rest))) {i j n : Nat} (hi : i < l.length) (hj : j < sz) :
    vLoad s (.ptr q (i * sz + j)) n false = (enc (l.getD i z))[j]? := by
  have h3 := rows_idx h z l i hi
  have hl : (rows enc l).length = l.length * sz := rows_len h l
  have h2 : i * sz + sz ≤ l.length * sz := by
    have := Nat.mul_le_mul_right sz (show i + 1 ≤ l.length from hi)
    rw [Nat.add_mul, Nat.one_mul] at this
    exact this
  simp only [vLoad, hq, takeCells, Bool.false_eq_true, if_false]
  rw [← h3, List.getElem?_take, if_pos hj, List.getElem?_drop, List.getElem?_append_left (by omega)]
theorem load_cell {t : HS} {q : Nat} {cs : List HV} (off n : Nat) (h : t q = some (.cells cs)) : vLoad t (.ptr q off) n false = cs[off]? := by simp [vLoad, takeCells, h]
theorem load_all {t : HS} {q n : Nat} {cs : List HV} (hn : cs.length = n) (h : t q = some (.cells cs)) : vLoad t (.ptr q 0) n true = some (.agg cs) := by
  subst hn
  simp [vLoad, takeCells, h]
/-- A value is put into a box of its size. -/
theorem store_all {s : HS} {q n : Nat} {cs vs : List HV} {K : HS → Prop} (hq : s q = some (.cells cs)) (hc : cs.length = n) (hv : vs.length = n) (ho : ∀ x ∈ vs, hone x = true) (h : K (s.set q (.cells vs))) : hStore s (.ptr q 0) (.agg vs) n K := by
  unfold hStore
  simp only [hcells, hq]
  refine ⟨hv, by omega, ho, ?_⟩
  have e : putCells cs 0 vs = vs := by
    unfold putCells
    rw [List.take_zero, List.nil_append, List.drop_of_length_le (by omega), List.append_nil]
  rw [e]
  exact h
/-- A new box that a value is put into. -/
theorem new_store {s : HS} {n : Nat} {zs vs : List HV} {K : HV → HS → Prop} (hz : zs.length = n) (hv : vs.length = n) (ho : ∀ x ∈ vs, hone x = true) (h : ∀ q, s q = none → K (.ptr q 0) (s.set q (.cells vs))) :
    hNew s (.cells zs) (fun id => .ptr id 0) (fun x t => hStore t x (.agg vs) n (fun t' => K x t')) := by
  intro q hq
  refine store_all (s := s.set q (.cells zs)) (by simp [HS.set]) hz hv ho ?_
  have : (s.set q (.cells zs)).set q (.cells vs) = s.set q (.cells vs) := by funext k; simp only [HS.set]; split <;> rfl
  rw [this]
  exact h q hq
/-- An element is put into a row. -/
theorem store_rows {α : Type} {enc : α → List HV} {sz : Nat} (h : ∀ x, (enc x).length = sz) {s : HS} {q : Nat} {l : List α} {rest : List HV} (hq : s q = some (.cells (rows enc l ++ rest))) {i : Nat} (hi : i < l.length) (v : α)
    (ho : ∀ x ∈ enc v, hone x = true) {K : HS → Prop} (hK : K (s.set q (.cells (rows enc (l.set i v) ++ rest)))) : hStore s (.ptr q (i * sz)) (.agg (enc v)) sz K := by
  have hl : (rows enc l).length = l.length * sz := rows_len h l
  have h2 : i * sz + sz ≤ l.length * sz := by
    have := Nat.mul_le_mul_right sz (show i + 1 ≤ l.length from hi)
    rw [Nat.add_mul, Nat.one_mul] at this
    exact this
  unfold hStore
  simp only [hcells, hq]
  refine ⟨h v, by rw [List.length_append]; omega, ho, ?_⟩
  rw [put_rows h v rest l i hi]
  exact hK
theorem slice_view_hi {q off sz n : Nat} {f : Bool} {hi : Nat} (k : IntKind) (h1 : hi ≤ n) : vSlice sz (.view q off sz n f) none (some (.lit (.int k hi))) none = some (.view q off sz hi (f && hi == n)) := by
  have h3 : (hi : Int) ≤ (n : Int) := by omega
  simp [vSlice, cutAt, intAt, h3]
theorem slice_view_lo {q off sz n : Nat} {f : Bool} {lo : Nat} (k : IntKind) (h1 : lo ≤ n) : vSlice sz (.view q off sz n f) (some (.lit (.int k lo))) none none = some (.view q (off + lo * sz) sz (n - lo) f) := by
  have h3 : (lo : Int) ≤ (n : Int) := by omega
  simp [vSlice, cutAt, intAt, h3]
/-- What is left of a row, when the end of it is made zero. -/
theorem clear_tail {α : Type} {enc : α → List HV} {sz : Nat} (h : ∀ x, (enc x).length = sz) (hz0 : 0 < sz) {z : Value} (hz : z.cells.size = sz) {s : HS} {q : Nat} {l : List α} {rest : List HV} (hq : s q = some (.cells (rows enc l ++ rest))) {i : Nat} (hi : i ≤ l.length) {f : Bool} {K : HS → Prop}
    (hK : ∀ rest', K (s.set q (.cells (rows enc (l.take i) ++ rest')))) : hClear s sz z (.view q (0 + i * sz) sz (l.length - i) f) K := by
  have hl : (rows enc l).length = l.length * sz := rows_len h l
  have h2 : i * sz + (l.length - i) * sz = l.length * sz := by rw [← Nat.add_mul]; congr 1; omega
  unfold hClear
  simp only [hq]
  refine ⟨trivial, by rw [List.length_append]; omega, ?_⟩
  have e : putCells (rows enc l ++ rest) (0 + i * sz) (zcells z ((l.length - i) * sz)) = rows enc (l.take i) ++ (zcells z ((l.length - i) * sz) ++ (rows enc l ++ rest).drop (0 + i * sz + (zcells z ((l.length - i) * sz)).length)) := by
    unfold putCells
    rw [Nat.zero_add, List.take_append_of_le_length (by omega), rows_take h, List.append_assoc]
  rw [e]
  exact hK _
end Go.Proofs.YtkcgokkgefgcjaaDoor.H
end
section
namespace Go.Proofs.YtkcgokkgefgcjaaDoor.H
open Go.RowKit Go.MapKept
set_option linter.unusedVariables false
set_option linter.unusedSimpArgs false
variable {P : Program}
def idxI {α : Type} (p : α → Bool) (l : List α) : Int := match l.findIdx? p with | some i => (i : Int) | none => -1
theorem idxI_at {α : Type} {p : α → Bool} {l : List α} {i : Nat} (hi : i < l.length) (h : ∀ x ∈ l.take i, p x = false) (hp : p l[i] = true) : idxI p l = (i : Int) := by
  have : l.findIdx? p = some i := by
    rw [List.findIdx?_eq_some_iff_getElem]
    refine ⟨hi, hp, fun j hj => ?_⟩
    have := h l[j] (List.mem_take_iff_getElem.2 ⟨j, by omega, rfl⟩)
    simp [this]
  simp [idxI, this]
theorem idxI_none {α : Type} {p : α → Bool} {l : List α} (h : ∀ x ∈ l, p x = false) : idxI p l = -1 := by
  have : l.findIdx? p = none := List.findIdx?_eq_none_iff.2 h
  simp [idxI, this]
theorem idxI_cases {α : Type} (p : α → Bool) (l : List α) : (idxI p l = -1 ∧ ∀ x ∈ l, p x = false) ∨ ∃ i, ∃ hi : i < l.length, idxI p l = (i : Int) ∧ p l[i] = true ∧ ∀ x ∈ l.take i, p x = false := by
  cases h : l.findIdx? p with
  | none => exact .inl ⟨by simp [idxI, h], List.findIdx?_eq_none_iff.1 h⟩
  | some i =>
    rw [List.findIdx?_eq_some_iff_getElem] at h
    obtain ⟨hi, hp, hj⟩ := h
    have ht : ∀ x ∈ l.take i, p x = false := fun x hx => by
      obtain ⟨j, hj1, rfl⟩ := List.mem_take_iff_getElem.1 hx
      have := hj j (by omega)
      simpa using this
    exact .inr ⟨i, hi, idxI_at hi ht hp, hp, ht⟩
theorem wrap_add1 {i : Nat} (h : i < 9223372036854775807) : IntKind.i64.wrap ((i : Int) + 1) = ((i + 1 : Nat) : Int) := by rw [w64 (by omega) (by omega)]; omega
theorem getD_get {α : Type} (z : α) (l : List α) {i : Nat} (h : i < l.length) : l.getD i z = l[i] := by simp [List.getD, h]
/-- slices.IndexFunc: the row lies in memory. -/
theorem idxFunc_gen {e sz : Nat} {α : Type} {enc : α → List HV} (h : ∀ x, (enc x).length = sz) (z : α) (p : α → Bool) {a1 : HV} {q : Nat} {l : List α} {rest : List HV} {f : Bool} {s : HS} {Q : HV → HS → Prop}
    (hq : s q = some (.cells (rows enc l ++ rest))) (hl : l.length < 9223372036854775807)
    (hp : ∀ x ∈ l, ∀ K : HV → HS → Prop, K (.lit (.bool (p x))) s → hcall P a1 [.agg (enc x)] s K) (hQ : Q (.lit (.int .i64 (idxI p l))) s) :
    bindO (vLenT (some (.slice e)) s (.view q 0 sz l.length f)) fun x1 => HLoop (fun y3 s4 K2 => bindO (vBin .lss (y3.headD .junk) x1) fun x5 => hcond x5 (bindO (vIdx sz (.view q 0 sz l.length f) (y3.headD .junk)) fun x6 => bindO (vLoad s4 x6 sz true) fun x7 => hcall P a1 [x7] s4 (fun r8 s9 => hcond r8 (Q (y3.headD .junk) s9) (bindO (vBin .add (y3.headD .junk) (.lit (.int .i64 1))) fun x10 => K2 [x10] s9))) (Q (.lit (.int .i64 (-1))) s4)) [(.lit (.int .i64 0))] s := by
  simp only [vLenT, vLen, bindO]
  refine HLoop.ghost (σ := Nat) (fun i => [.lit (.int .i64 (i : Int))]) (fun i t => i ≤ l.length ∧ t = s ∧ ∀ x ∈ l.take i, p x = false) (fun i => l.length - i) 0 rfl ⟨Nat.zero_le _, rfl, by simp⟩ ?_
  rintro i t K ⟨hi, rfl, ht⟩ hK
  simp only [List.headD_cons, vBin, if_true, hcond]
  by_cases hlt : i < l.length
  · have hlt' : (i : Int) < (l.length : Int) := by omega
    have hg := getD_get z l hlt
    simp only [hlt', decide_true, idx_view _ hlt, Nat.zero_add, load_rows h z hq hlt, hg]
    refine hp _ (List.getElem_mem hlt) _ ?_
    cases hpx : p l[i] with
    | true =>
      have := idxI_at hlt ht hpx
      rw [this] at hQ
      exact hQ
    | false =>
      simp only [wrap_add1 (show i < 9223372036854775807 by omega)]
      refine hK (i + 1) _ _ rfl ⟨hlt, rfl, fun x hx => ?_⟩ (by omega)
      rw [take_succ' z l hlt, hg, List.mem_append, List.mem_singleton] at hx
      rcases hx with hx | rfl
      · exact ht x hx
      · exact hpx
  · have hlt' : ¬ (i : Int) < (l.length : Int) := by omega
    rw [List.take_of_length_le (by omega)] at ht
    rw [idxI_none ht] at hQ
    simp only [hlt', decide_false]
    exact hQ
theorem idxFunc_nil {e sz : Nat} {a1 : HV} {s : HS} {Q : HV → HS → Prop} (hQ : Q (.lit (.int .i64 (-1))) s) :
    bindO (vLenT (some (.slice e)) s nilV) fun x1 => HLoop (fun y3 s4 K2 => bindO (vBin .lss (y3.headD .junk) x1) fun x5 => hcond x5 (bindO (vIdx sz nilV (y3.headD .junk)) fun x6 => bindO (vLoad s4 x6 sz true) fun x7 => hcall P a1 [x7] s4 (fun r8 s9 => hcond r8 (Q (y3.headD .junk) s9) (bindO (vBin .add (y3.headD .junk) (.lit (.int .i64 1))) fun x10 => K2 [x10] s9))) (Q (.lit (.int .i64 (-1))) s4)) [(.lit (.int .i64 0))] s := by
  simp only [vLenT, vLen, bindO]
  refine HLoop.ghost (σ := Nat) (fun i => [.lit (.int .i64 (i : Int))]) (fun i t => t = s ∧ i = 0) (fun i => 0) 0 rfl ⟨rfl, rfl⟩ ?_
  rintro i t K ⟨rfl, rfl⟩ hK
  exact hQ
end Go.Proofs.YtkcgokkgefgcjaaDoor.H
end
section
namespace Go.Proofs.YtkcgokkgefgcjaaDoor.H
open Go.RowKit Go.MapKept
set_option linter.unusedVariables false
set_option linter.unusedSimpArgs false
variable {P : Program}
/-- A row that grows and shrinks: behind it there may be cells. -/
def AccX (b t : HS) (sz : Nat) (A : HV) (n : Nat) (cs : List HV) : Prop :=
  (A = nilV ∧ cs = [] ∧ n = 0) ∨ ∃ q f rest k, b q = none ∧ A = .view q 0 sz n f ∧ t q = some (.cells (cs ++ rest)) ∧ cs.length = n * sz ∧ rest.length = k * sz
theorem Acc.toX {b t : HS} {sz : Nat} {A : HV} {n : Nat} {cs : List HV} (h : Acc b t sz A n cs) : AccX b t sz A n cs := by
  rcases h with h | ⟨q, f, h1, h2, h3, h4, h5⟩
  · exact .inl h
  · exact .inr ⟨q, f, [], 0, h1, h2, by rw [List.append_nil]; exact h3, h4, by simp⟩
theorem AccX.one {b t : HS} {sz : Nat} {A : HV} {n : Nat} {cs : List HV} (h : AccX b t sz A n cs) : hone A = true := by
  rcases h with ⟨rfl, -⟩ | ⟨q, f, r, k, -, rfl, -⟩ <;> rfl
theorem AccX.hc {b t : HS} {sz : Nat} {A : HV} {n : Nat} {cs : List HV} (h : AccX b t sz A n cs) : hcells A = some [A] := by
  rcases h with ⟨rfl, -⟩ | ⟨q, f, r, k, -, rfl, -⟩ <;> rfl
theorem AccX.len {b t : HS} {sz : Nat} {A : HV} {n : Nat} {cs : List HV} (h : AccX b t sz A n cs) (e : Nat) (s : HS) : vLenT (some (.slice e)) s A = some (.lit (.int .i64 n)) := by
  rcases h with ⟨rfl, -, rfl⟩ | ⟨q, f, r, k, -, rfl, -⟩ <;> rfl
theorem AccX.free {b t : HS} {sz : Nat} {A : HV} {n : Nat} {cs : List HV} (h : AccX b t sz A n cs) {q : Nat} (hq : accId A = some q) : b q = none ∧ ∃ rest, t q = some (.cells (cs ++ rest)) := by
  rcases h with ⟨rfl, -⟩ | ⟨q', f, r, k, h1, rfl, h2, -⟩
  · cases hq
  · cases hq; exact ⟨h1, r, h2⟩
theorem AccX.keep {b t t' : HS} {sz : Nat} {A : HV} {n : Nat} {cs : List HV} (h : AccX b t sz A n cs) (hk : ∀ q ob, accId A = some q → t q = some ob → t' q = some ob) : AccX b t' sz A n cs := by
  rcases h with h | ⟨q, f, r, k, h1, rfl, h2, h3⟩
  · exact .inl h
  · exact .inr ⟨q, f, r, k, h1, rfl, hk q _ rfl h2, h3⟩
theorem AccX.le {b t t' : HS} {sz : Nat} {A : HV} {n : Nat} {cs : List HV} (h : AccX b t sz A n cs) (hle : HS.le t t') : AccX b t' sz A n cs := h.keep fun q ob _ hq => hle _ _ hq
theorem AccX.new {b t : HS} {sz : Nat} {A : HV} {n : Nat} {cs : List HV} (h : AccX b t sz A n cs) {X : Nat} (o : HObj) (hX : t X = none) : AccX b (t.set X o) sz A n cs :=
  h.keep fun q ob _ hq => by rw [set_ne _ _ (ne_new hq hX)]; exact hq
theorem AccX.put {b t : HS} {sz : Nat} {A : HV} {n : Nat} {cs : List HV} (h : AccX b t sz A n cs) {X : Nat} (o : HObj) (hX : accId A ≠ some X) : AccX b (t.set X o) sz A n cs :=
  h.keep fun q ob hq hq2 => by rw [set_ne _ _ (by rintro rfl; exact hX hq)]; exact hq2
theorem AccX.base {b b' t : HS} {sz : Nat} {A : HV} {n : Nat} {cs : List HV} (h : AccX b t sz A n cs) (hle : HS.le b' b) : AccX b' t sz A n cs := by
  rcases h with h | ⟨q, f, r, k, h1, h2⟩
  · exact .inl h
  · exact .inr ⟨q, f, r, k, none_of_le hle h1, h2⟩
theorem AccX.cells {b t : HS} {sz : Nat} {A : HV} {n : Nat} {cs : List HV} (h : AccX b t sz A n cs) : lcells t sz A = some cs := by
  rcases h with ⟨rfl, rfl, rfl⟩ | ⟨q, f, r, k, h1, rfl, h3, h4, h5⟩
  · rfl
  · have e : (cs ++ r).take (n * sz) = cs := by rw [← h4]; exact List.take_left
    simp [lcells, h3, h4, e]
theorem AccX.llen {b t : HS} {sz : Nat} {A : HV} {n : Nat} {cs : List HV} (h : AccX b t sz A n cs) : llen A = n := by
  rcases h with ⟨rfl, rfl, rfl⟩ | ⟨q, f, r, k, h1, rfl, h3, h4, h5⟩ <;> rfl
/-- One more behind it. -/
theorem AccX.app1W {b t : HS} {sz by_ : Nat} {A : HV} {n : Nat} {cs zs : List HV} {W : HS → Prop} {K : HV → HS → Prop} (h : AccX b t sz A n cs) (hb : HS.le b t) (hsz : 0 < sz) {x : HV} {vs : List HV} (hx : hcells x = some vs) (hv : vs.length = sz) (hz : zs.length = sz)
    (hroom : room (n + 1) by_) (hW : ∀ id, t id = none → W (t.set id (.cells vs)))
    (hK : ∀ A' t', AccX b t' sz A' (n + 1) (cs ++ vs) → HS.le b t' → (∀ q ob, accId A ≠ some q → t q = some ob → t' q = some ob ∧ accId A' ≠ some q) → K A' t') : hBS t sz 1 zs [(0, x)] (fun v s => W s ∧ hAppend s sz by_ A v K) := by
  have hf : hfill (fun i => some (i * sz, sz)) zs [(0, x)] = some vs := by
    simp only [hfill, hx, Nat.zero_mul, Nat.zero_add, hv, hz, Nat.le_refl, and_self, if_true, List.take_zero, List.nil_append]
    rw [List.drop_of_length_le (by omega), List.append_nil]
  unfold hBS
  rw [hf]
  intro X hX
  refine ⟨hW X hX, ?_⟩
  have hlx : lcells (t.set X (.cells vs)) sz (.view X 0 sz 1 true) = some vs := by simp [lcells, set_at, hv, List.take_of_length_le]
  rcases h with ⟨rfl, rfl, rfl⟩ | ⟨q, f, r, k, h1, rfl, h3, h4, h5⟩
  · refine (Acc.nil b (t.set X (.cells vs)) sz).app (le_set_new _ hb hX) (xs := vs) (k := 1) hlx rfl (by omega) hroom ?_
    intro A' t' g1 g2 g3
    exact hK A' t' g1.toX g2 fun p ob hp hp2 => g3 p ob hp (by rw [set_ne _ _ (ne_new hp2 hX)]; exact hp2)
  · have nX : q ≠ X := ne_new h3 hX
    have h3' : (t.set X (.cells vs)) q = some (.cells (cs ++ r)) := by rw [set_ne _ _ nX]; exact h3
    have hle := le_set_new (.cells vs) hb hX
    have hfree : ∀ p ob, t p = some ob → (t.set X (.cells vs)) p = some ob := fun p ob hp => by rw [set_ne _ _ (ne_new hp hX)]; exact hp
    generalize t.set X (.cells vs) = u at *
    have hcut : ((cs ++ r).drop 0).take (n * sz) = cs := by rw [List.drop_zero, ← h4]; exact List.take_left
    unfold hAppend
    rw [hlx]
    have hll : Go.Proofs.YtkcgokkgefgcjaaDoor.H.llen (.view X 0 sz 1 true) = 1 := rfl
    simp only [h3', hll]
    refine ⟨trivial, by rw [List.length_append]; omega, ?_⟩
    cases f with
    | true =>
      simp only [if_true]
      rw [if_neg (show ¬ (1 = 0) by omega)]
      refine ⟨hroom, fun id hid => ?_⟩
      rw [hcut]
      refine hK _ _ (.inr ⟨id, _, [], 0, none_of_le hle hid, rfl, by rw [set_at, List.append_nil], by rw [List.length_append, h4, hv, Nat.add_mul, Nat.one_mul], by simp⟩) (le_set_new _ hle hid) fun p ob hp hp2 => ?_
      have hp3 := hfree p ob hp2
      have := ne_new hp3 hid
      exact ⟨by rw [set_ne _ _ this]; exact hp3, by rintro ⟨⟩; exact this rfl⟩
    | false =>
      simp only [Bool.false_eq_true, if_false]
      split
      · rename_i htip
        have hr0 : r = [] := List.eq_nil_of_length_eq_zero (by rw [List.length_append] at htip; omega)
        subst hr0
        refine ⟨hroom, fun id hid => ?_⟩
        rw [List.append_nil, List.drop_zero]
        refine hK _ _ (.inr ⟨id, _, [], 0, none_of_le hle hid, rfl, by rw [set_at, List.append_nil], by rw [List.length_append, h4, hv, Nat.add_mul, Nat.one_mul], by simp⟩) ?_ ?_
        · intro p ob hp
          have hpq : p ≠ q := by rintro rfl; rw [h1] at hp; cases hp
          have hp1 := hle p ob hp
          rw [set_ne _ _ (ne_new hp1 hid), del_ne _ hpq]
          exact hp1
        · intro p ob hp hp2
          have hpq : p ≠ q := by rintro rfl; exact hp rfl
          have hp3 := hfree p ob hp2
          have := ne_new hp3 hid
          exact ⟨by rw [set_ne _ _ this, del_ne _ hpq]; exact hp3, by rintro ⟨⟩; exact this rfl⟩
      · rename_i htip
        have hk0 : k ≠ 0 := by
          rintro rfl
          rw [List.length_append] at htip
          simp at h5
          rw [h5] at htip
          simp at htip
          omega
        obtain ⟨k', rfl⟩ : ∃ k', k = k' + 1 := ⟨k - 1, by omega⟩
        rw [Nat.add_mul, Nat.one_mul] at h5
        have hn1 : (n + 1) * sz = n * sz + sz := by rw [Nat.add_mul, Nat.one_mul]
        refine ⟨hsz, by rw [List.length_append, hn1]; omega, ?_⟩
        have e : putCells (cs ++ r) (0 + n * sz) vs = (cs ++ vs) ++ r.drop sz := by
          unfold putCells
          rw [Nat.zero_add, ← h4, List.take_left, hv]
          congr 1
          rw [List.drop_append, List.drop_of_length_le (by omega), List.nil_append]
          congr 1
          omega
        rw [e]
        refine hK _ _ (.inr ⟨q, false, r.drop sz, k', h1, rfl, set_at _ _ _, by rw [List.length_append, h4, hv, Nat.add_mul, Nat.one_mul], by rw [List.length_drop]; omega⟩) (le_set_free _ hle h1) fun p ob hp hp2 => ?_
        have hpq : p ≠ q := by rintro rfl; exact hp rfl
        exact ⟨by rw [set_ne _ _ hpq]; exact hfree p ob hp2, hp⟩
theorem AccX.app1 {b t : HS} {sz by_ : Nat} {A : HV} {n : Nat} {cs zs : List HV} {K : HV → HS → Prop} (h : AccX b t sz A n cs) (hb : HS.le b t) (hsz : 0 < sz) {x : HV} {vs : List HV} (hx : hcells x = some vs) (hv : vs.length = sz) (hz : zs.length = sz)
    (hroom : room (n + 1) by_) (hK : ∀ A' t', AccX b t' sz A' (n + 1) (cs ++ vs) → HS.le b t' → (∀ q ob, accId A ≠ some q → t q = some ob → t' q = some ob ∧ accId A' ≠ some q) → K A' t') : hBS t sz 1 zs [(0, x)] (fun v s => hAppend s sz by_ A v K) := by
  have := h.app1W (W := fun _ => True) (K := K) (zs := zs) hb hsz hx hv hz hroom (fun _ _ => trivial) hK
  unfold hBS at this ⊢
  split
  · rename_i cs' h'
    rw [h'] at this
    exact fun id hid => (this id hid).2
  · rename_i h'
    rw [h'] at this
    exact this
/-- What lies still, and what may be written, is a list from here on. -/
theorem AccX.up {b t : HS} {sz : Nat} {A : HV} {n : Nat} {cs : List HV} (h : AccX b t sz A n cs) (hb : HS.le b t) : UpL [A] t [.list sz n cs false] b := by
  rcases h with ⟨rfl, rfl, rfl⟩ | ⟨q, f, r, k, h1, rfl, h3, h4, h5⟩
  · exact (UpL.nilAt (ys := []) (zs := []) sz).trans (UpL.le _ hb)
  · have hu := UpL.frzD (xs := [.view q 0 sz n f]) h3 hb h1
    have e : (cs ++ r).take (n * sz) = cs := by rw [← h4]; exact List.take_left
    have e2 : 0 + n * sz ≤ (cs ++ r).length := by rw [List.length_append]; omega
    simp only [List.map_cons, List.map_nil, frz2, frz1, frz0, phi, true_and, e2, if_true, Option.getD_some, List.drop_zero, e] at hu
    exact hu
/-- An element of it. -/
theorem AccX.at_ {α : Type} {enc : α → List HV} {sz : Nat} (he : ∀ x, (enc x).length = sz) (z : α) {b t : HS} {A : HV} {l : List α} (h : AccX b t sz A l.length (rows enc l)) {i : Nat} (k : IntKind) (hi : i < l.length) :
    ∃ q, accId A = some q ∧ vIdx sz A (.lit (.int k i)) = some (.ptr q (i * sz)) ∧ vLoad t (.ptr q (i * sz)) sz true = some (.agg (enc (l.getD i z))) ∧ ∀ j, j < sz → ∀ m, vLoad t (.ptr q (i * sz + j)) m false = (enc (l.getD i z))[j]? := by
  rcases h with ⟨rfl, h0, h1⟩ | ⟨q, f, r, k', h1, rfl, h3, h4, h5⟩
  · omega
  · exact ⟨q, rfl, by rw [idx_view _ hi, Nat.zero_add], load_rows he z h3 hi, fun j hj m => load_rows1 he z h3 hi hj⟩
/-- A literal of none, that grows. -/
def Acc0 (b t : HS) (sz : Nat) (A : HV) (n : Nat) (cs : List HV) : Prop := Acc b t sz A n cs ∨ (n = 0 ∧ cs = [] ∧ ∃ q, b q = none ∧ A = .view q 0 sz 0 true ∧ t q = some (.cells []))
theorem hBS0 {t : HS} {sz : Nat} {K : HV → HS → Prop} (h : ∀ id, t id = none → K (.view id 0 sz 0 true) (t.set id (.cells []))) : hBS t sz 0 [] [] K := h
theorem app_empty {b t : HS} {sz by_ q : Nat} {K : HV → HS → Prop} (hb : HS.le b t) (hq : b q = none) (ht : t q = some (.cells [])) {x : HV} {xs : List HV} {k : Nat} (hx : lcells t sz x = some xs) (hk : llen x = k) (hl : xs.length = k * sz)
    (hroom : room k by_) (hK : ∀ A' t', Acc0 b t' sz A' k xs → HS.le b t' → K A' t') : hAppend t sz by_ (.view q 0 sz 0 true) x K := by
  unfold hAppend
  rw [hx]
  simp only [hk, ht]
  refine ⟨by trivial, by simp, ?_⟩
  simp only [if_true]
  split
  · rename_i h0
    subst h0
    have : xs = [] := List.eq_nil_of_length_eq_zero (by rw [hl]; omega)
    subst this
    exact hK _ _ (.inr ⟨rfl, rfl, q, hq, rfl, ht⟩) hb
  · refine ⟨by rw [Nat.zero_add]; exact hroom, fun id hid => ?_⟩
    have e : (([] : List HV).drop 0).take (0 * sz) ++ xs = xs := by simp
    rw [e]
    exact hK _ _ (.inl (.inr ⟨id, _, none_of_le hb hid, by rw [Nat.zero_add], set_at _ _ _, hl, by omega⟩)) (le_set_new _ hb hid)
theorem acc0_upL {b t : HS} {sz : Nat} {A : HV} {n : Nat} {cs : List HV} (h : Acc0 b t sz A n cs) (hb : HS.le b t) : UpL [A] t [.list sz n cs false] b := by
  rcases h with h | ⟨rfl, rfl, q, h3, rfl, h4⟩
  · exact h.upAtL hb [] [] (fun _ _ => rfl) (fun _ _ => rfl)
  · have := UpL.freeze (ys := []) (zs := []) (id := q) (off := 0) (sz := sz) (n := 0) (full := true) (full' := false) (fun h => by cases h) h4 (by simp)
    simp only [Nat.zero_mul, List.take_zero, List.nil_append] at this
    exact this.trans (UpL.le _ (le_del_free hb h3))
end Go.Proofs.YtkcgokkgefgcjaaDoor.H
end
section
namespace Go.Proofs.YtkcgokkgefgcjaaDoor.H
open Go.RowKit Go.MapKept
set_option linter.unusedVariables false
set_option linter.unusedSimpArgs false
theorem UpL.frzP {s s' : HS} {id : Nat} {cs : List HV} (hs : s id = some (.cells cs)) (hle : HS.le s' s) (hid : s' id = none) (ys zs : List HV) : UpL (ys ++ .ptr id 0 :: zs) s (ys ++ .elt cs 0 :: zs) s' := by
  intro m w cvs hR hr
  obtain ⟨m', h1, h2, h3⟩ := freeze_m hR hs (s' := s') fun k o hk => ⟨(by rintro rfl; rw [hid] at hk; cases hk), o, hle k o hk, Or.inl rfl⟩
  refine ⟨m', h1, h2, by simpa using hr.1, fun j x hj => ?_⟩
  by_cases hlt : j < ys.length
  · rw [List.getElem?_append_left hlt] at hj
    exact (hr.2 j x (by rw [List.getElem?_append_left hlt]; exact hj)).mono h1
  · rw [List.getElem?_append_right (by omega)] at hj
    have hr2 := hr.2 j
    rw [List.getElem?_append_right (by omega)] at hr2
    obtain ⟨k, hk⟩ : ∃ k, k = j - ys.length := ⟨_, rfl⟩
    rw [← hk] at hj hr2
    cases k with
    | succ k => exact (hr2 x hj).mono h1
    | zero =>
      simp at hj
      subst hj
      have hp := hr2 (.ptr id 0) rfl
      generalize cvs.getD j undef = v at hp ⊢
      cases hp with
      | ptr _ _ l hl =>
        obtain ⟨ho, c, t, fr, o1, o2, o3, o4, o5⟩ := hR.objs id _ l hs hl
        by_cases hn : cs = []
        · subst hn
          exact .elt [] 0 l.b l.base (fun _ => undef) ho (fun j hj => by simp at hj) (fun j x hj => by simp at hj)
        · have hpos : 0 < cs.length := List.length_pos_iff.2 hn
          have hv : Rep m (.view id 0 1 cs.length false) (.slice (some ⟨l.b, l.base + 0, none⟩) cs.length (l.lim - l.base)) :=
            .view id 0 1 cs.length false (l.lim - l.base) l hl (by omega) (fun h => by cases h) (by omega) (fun _ => by omega)
          have hL := h3 0 1 cs.length false _ (by omega) hv
          rw [List.drop_zero, Nat.mul_one, List.take_length] at hL
          generalize hq : cs.length = n at hL hpos
          cases hL with
          | list0 => omega
          | list _ _ _ _ _ _ _ f _ _ _ _ g1 g2 => exact .elt cs 0 l.b (l.base + 0) f ho g1 g2
end Go.Proofs.YtkcgokkgefgcjaaDoor.H
end
section
namespace Go.Proofs.YtkcgokkgefgcjaaDoor.H
open Go.RowKit Go.MapKept
set_option linter.unusedVariables false
set_option linter.unusedSimpArgs false
theorem Acc0.base {b b' t : HS} {sz : Nat} {A : HV} {n : Nat} {cs : List HV} (h : Acc0 b t sz A n cs) (hle : HS.le b' b) : Acc0 b' t sz A n cs := by
  rcases h with h | ⟨h1, h2, q, h3, h4, h5⟩
  · exact .inl (h.base hle)
  · exact .inr ⟨h1, h2, q, none_of_le hle h3, h4, h5⟩
theorem Acc0.grow {b t : HS} {sz : Nat} {A : HV} {n : Nat} {cs : List HV} (h : Acc0 b t sz A n cs) {k : Nat} (hk : t k = none) (ob : HObj) : Acc0 (b.set k ob) (t.set k ob) sz A n cs := by
  rcases h with (h | ⟨q, f, h1, h2, h3, h4, h5⟩) | ⟨h1, h2, q, h3, h4, h5⟩
  · exact .inl (.inl h)
  · have := ne_new h3 hk
    exact .inl (.inr ⟨q, f, by rw [set_ne _ _ this]; exact h1, h2, by rw [set_ne _ _ this]; exact h3, h4, h5⟩)
  · have := ne_new h5 hk
    exact .inr ⟨h1, h2, q, by rw [set_ne _ _ this]; exact h3, h4, by rw [set_ne _ _ this]; exact h5⟩
theorem le_setBoth {b t : HS} (h : HS.le b t) (k : Nat) (ob : HObj) : HS.le (b.set k ob) (t.set k ob) := by
  intro j o hj
  by_cases e : j = k
  · subst e; rw [set_at] at hj ⊢; exact hj
  · rw [set_ne _ _ e] at hj ⊢
    exact h j o hj
end Go.Proofs.YtkcgokkgefgcjaaDoor.H
end
section
namespace Go.Proofs.YtkcgokkgefgcjaaDoor.H
set_option linter.unusedVariables false
set_option linter.unusedSimpArgs false
section
variable {α : Type} {z : α} {lt : α → α → Bool}
/-- A total order, but for equals. -/
structure Ordr (lt : α → α → Bool) : Prop where
  asymm : ∀ x y, lt x y = true → lt y x = false
  trans : ∀ x y w, lt y x = false → lt w y = false → lt w x = false
theorem Ordr.irrefl (h : Ordr lt) (x : α) : lt x x = false := by
  cases e : lt x x with
  | false => rfl
  | true => have := h.asymm x x e; rw [e] at this; cases this
def SO (z : α) (lt : α → α → Bool) (M : List α) (a b : Nat) : Prop := ∀ i j, a ≤ i → i < j → j < b → lt (M.getD j z) (M.getD i z) = false
def swap (z : α) (M : List α) (i j : Nat) : List α := (M.set i (M.getD j z)).set j (M.getD i z)
theorem swap_perm {M : List α} {i j : Nat} (hi : i < M.length) (hj : j < M.length) : (swap z M i j).Perm M := by
  unfold swap
  rw [getD_get z M hi, getD_get z M hj]
  exact List.set_set_perm hi hj
theorem swap_get {M : List α} {i j : Nat} (hi : i < M.length) (hj : j < M.length) (k : Nat) : (swap z M i j).getD k z = if k = j then M.getD i z else if k = i then M.getD j z else M.getD k z := by
  unfold swap
  simp only [List.getD, List.getElem?_set]
  by_cases h1 : k = j
  · subst h1
    simp [hj]
  · by_cases h2 : k = i
    · subst h2
      have : ¬ j = k := fun e => h1 e.symm
      simp [this, hi, h1]
    · have e1 : ¬ j = k := fun e => h1 e.symm
      have e2 : ¬ i = k := fun e => h2 e.symm
      simp [e1, e2, h1, h2]
/-- What one element is put into, from the right. -/
def Ins (z : α) (lt : α → α → Bool) (M : List α) (a i j : Nat) : Prop :=
  (∀ p q, a ≤ p → p < q → q ≤ i → p ≠ j → q ≠ j → lt (M.getD q z) (M.getD p z) = false) ∧ ∀ q, j < q → q ≤ i → lt (M.getD q z) (M.getD j z) = false
theorem Ins.start {M : List α} {a i : Nat} (h : SO z lt M a i) : Ins z lt M a i i :=
  ⟨fun p q h1 h2 h3 h4 h5 => h p q h1 h2 (by omega), fun q h1 h2 => by omega⟩
theorem Ins.step (ho : Ordr lt) {M : List α} {a i j : Nat} (h : Ins z lt M a i j) (hi : i < M.length) (hj : j ≤ i) (ha : a < j) (hl : lt (M.getD j z) (M.getD (j - 1) z) = true) : Ins z lt (swap z M j (j - 1)) a i (j - 1) := by
  obtain ⟨h1, h2⟩ := h
  have hg := swap_get (z := z) (M := M) (i := j) (j := j - 1) (by omega) (by omega)
  constructor
  · intro p q g1 g2 g3 g4 g5
    rw [hg, hg, if_neg g5, if_neg g4]
    by_cases hp : p = j
    · subst hp
      rw [if_pos rfl, if_neg (by omega)]
      exact h1 (p - 1) q (by omega) (by omega) g3 (by omega) (by omega)
    · rw [if_neg hp]
      by_cases hq : q = j
      · subst hq
        rw [if_pos rfl]
        exact h1 p (q - 1) g1 (by omega) (by omega) hp (by omega)
      · rw [if_neg hq]
        exact h1 p q g1 g2 g3 hp hq
  · intro q g1 g2
    rw [hg, hg, if_neg (by omega), if_pos rfl]
    by_cases hq : q = j
    · subst hq
      rw [if_pos rfl]
      exact ho.asymm _ _ hl
    · rw [if_neg hq]
      exact h2 q (by omega) g2
theorem Ins.stop (ho : Ordr lt) {M : List α} {a i j : Nat} (h : Ins z lt M a i j) (ha : a ≤ j) (hj : j ≤ i) (hs : j = a ∨ lt (M.getD j z) (M.getD (j - 1) z) = false) : SO z lt M a (i + 1) := by
  obtain ⟨h1, h2⟩ := h
  intro p q g1 g2 g3
  by_cases hp : p = j
  · subst hp; exact h2 q g2 (by omega)
  · by_cases hq : q = j
    · subst hq
      have hs : lt (M.getD q z) (M.getD (q - 1) z) = false := hs.resolve_left (by omega)
      by_cases hpp : p = q - 1
      · subst hpp; exact hs
      · exact ho.trans _ _ _ (h1 p (q - 1) g1 (by omega) (by omega) hp (by omega)) hs
    · exact h1 p q g1 g2 (by omega) hp hq
/-- Changed within two bounds alone, and nothing lost. -/
structure Kept (z : α) (M M' : List α) (a b : Nat) : Prop where
  perm : M'.Perm M
  out : ∀ k, k < a ∨ b ≤ k → M'.getD k z = M.getD k z
  inn : ∀ k, a ≤ k → k < b → ∃ q, a ≤ q ∧ q < b ∧ M'.getD k z = M.getD q z
theorem Kept.refl (M : List α) (a b : Nat) : Kept z M M a b := ⟨List.Perm.refl _, fun _ _ => rfl, fun k h1 h2 => ⟨k, h1, h2, rfl⟩⟩
theorem Kept.trans {M M' M'' : List α} {a b : Nat} (h : Kept z M M' a b) (k : Kept z M' M'' a b) : Kept z M M'' a b :=
  ⟨k.perm.trans h.perm, fun i hi => (k.out i hi).trans (h.out i hi), fun i h1 h2 => by
    obtain ⟨q, q1, q2, e1⟩ := k.inn i h1 h2
    obtain ⟨r, r1, r2, e2⟩ := h.inn q q1 q2
    exact ⟨r, r1, r2, e1.trans e2⟩⟩
theorem Kept.wide {M M' : List α} {a b c d : Nat} (h : Kept z M M' a b) (h1 : c ≤ a) (h2 : b ≤ d) : Kept z M M' c d :=
  ⟨h.perm, fun i hi => h.out i (by omega), fun i h3 h4 => by
    by_cases hi : a ≤ i ∧ i < b
    · obtain ⟨q, q1, q2, e⟩ := h.inn i hi.1 hi.2
      exact ⟨q, by omega, by omega, e⟩
    · exact ⟨i, h3, h4, h.out i (by omega)⟩⟩
theorem Kept.len {M M' : List α} {a b : Nat} (h : Kept z M M' a b) : M'.length = M.length := h.perm.length_eq
theorem Kept.swap {M : List α} {a b i j : Nat} (hi : i < M.length) (hj : j < M.length) (h1 : a ≤ i) (h2 : i < b) (h3 : a ≤ j) (h4 : j < b) : Kept z M (swap z M i j) a b :=
  ⟨swap_perm hi hj, fun k hk => by rw [swap_get hi hj, if_neg (by omega), if_neg (by omega)], fun k h5 h6 => by
    rw [swap_get hi hj]
    split
    · exact ⟨i, h1, h2, rfl⟩
    · split
      · exact ⟨j, h3, h4, rfl⟩
      · exact ⟨k, h5, h6, rfl⟩⟩
theorem SO.nil (M : List α) (a : Nat) : SO z lt M a a := fun i j h1 h2 h3 => by omega
theorem SO.one (M : List α) (a : Nat) : SO z lt M a (a + 1) := fun i j h1 h2 h3 => by omega
theorem SO.of_out {M M' : List α} {a b c d : Nat} (h : SO z lt M a b) (k : Kept z M M' c d) (hd : b ≤ c ∨ d ≤ a) : SO z lt M' a b := fun i j h1 h2 h3 => by
  rw [k.out i (by omega), k.out j (by omega)]
  exact h i j h1 h2 h3
theorem SO.pairwise {M : List α} (h : SO z lt M 0 M.length) : M.Pairwise fun x y => lt y x = false := by
  rw [List.pairwise_iff_getElem]
  intro i j hi hj hij
  have := h i j (Nat.zero_le _) hij hj
  rwa [getD_get z M hi, getD_get z M hj] at this
end
end Go.Proofs.YtkcgokkgefgcjaaDoor.H
end
section
namespace Go.Proofs.YtkcgokkgefgcjaaDoor.H
set_option linter.unusedVariables false
set_option linter.unusedSimpArgs false
section
variable {α : Type} {z : α} {lt : α → α → Bool}
def SOf (lt : α → α → Bool) (f : Nat → α) (a b : Nat) : Prop := ∀ i j, a ≤ i → i < j → j < b → lt (f j) (f i) = false
theorem so_iff {M : List α} {a b : Nat} : SO z lt M a b ↔ SOf lt (fun k => M.getD k z) a b := Iff.rfl
/-- Two blocks changed places. -/
def swF (f : Nat → α) (p q n x : Nat) : α := if p ≤ x ∧ x < p + n then f (x - p + q) else if q ≤ x ∧ x < q + n then f (x - q + p) else f x
/-- What stands before and behind m changed places. -/
def rotF (f : Nat → α) (a m b x : Nat) : α := if a ≤ x ∧ x < a + (b - m) then f (x + (m - a)) else if a + (b - m) ≤ x ∧ x < b then f (x - (b - m)) else f x
def shR (f : Nat → α) (a k x : Nat) : α := if a ≤ x ∧ x < k then f (x + 1) else if x = k then f a else f x
def shL (f : Nat → α) (m k x : Nat) : α := if k < x ∧ x ≤ m then f (x - 1) else if x = k then f m else f x
theorem swF_zero (f : Nat → α) (p q x : Nat) : swF f p q 0 x = f x := by
  unfold swF
  rw [if_neg (by omega), if_neg (by omega)]
theorem swF_step {M' : List α} {f : Nat → α} {p q k : Nat} (h : ∀ x, M'.getD x z = swF f p q k x) (hpq : p + k < q) (hq : q + k < M'.length) (x : Nat) : (swap z M' (p + k) (q + k)).getD x z = swF f p q (k + 1) x := by
  rw [swap_get (by omega) hq, h, h, h]
  unfold swF
  repeat' split
  all_goals first | rfl | (exfalso; omega) | (congr 1; omega)
theorem shR_step {M' : List α} {f : Nat → α} {a k : Nat} (h : ∀ x, M'.getD x z = shR f a k x) (ha : a ≤ k) (hk : k + 1 < M'.length) (x : Nat) : (swap z M' k (k + 1)).getD x z = shR f a (k + 1) x := by
  rw [swap_get (by omega) hk, h, h, h]
  unfold shR
  repeat' split
  all_goals first | rfl | (exfalso; omega) | (congr 1; omega)
theorem shR_zero (f : Nat → α) (a x : Nat) : shR f a a x = f x := by
  unfold shR
  rw [if_neg (by omega)]
  split
  · rename_i e; rw [e]
  · rfl
theorem shL_step {M' : List α} {f : Nat → α} {m k : Nat} (h : ∀ x, M'.getD x z = shL f m k x) (hm : k ≤ m) (h0 : 0 < k) (hk : k < M'.length) (x : Nat) : (swap z M' k (k - 1)).getD x z = shL f m (k - 1) x := by
  rw [swap_get (by omega) (by omega), h, h, h]
  unfold shL
  repeat' split
  all_goals first | rfl | (exfalso; omega) | (congr 1; omega)
theorem shL_zero (f : Nat → α) (m x : Nat) : shL f m m x = f x := by
  unfold shL
  rw [if_neg (by omega)]
  split
  · rename_i e; rw [e]
  · rfl
theorem rot_step1 (f : Nat → α) {m i j : Nat} (hi : i ≤ m) (hj : j < i) (x : Nat) : rotF f (m - i) m (m + j) x = rotF (swF f (m - i) m j) (m - (i - j)) m (m + j) x := by
  unfold rotF swF
  repeat' split
  all_goals first | rfl | (exfalso; omega) | (congr 1; omega)
theorem rot_step2 (f : Nat → α) {m i j : Nat} (hi : i ≤ m) (hj : i < j) (x : Nat) : rotF f (m - i) m (m + j) x = rotF (swF f (m - i) (m + j - i) i) (m - i) m (m + (j - i)) x := by
  unfold rotF swF
  repeat' split
  all_goals first | rfl | (exfalso; omega) | (congr 1; omega)
theorem rot_end (f : Nat → α) {m i : Nat} (hi : i ≤ m) (x : Nat) : rotF f (m - i) m (m + i) x = swF f (m - i) m i x := by
  unfold rotF swF
  repeat' split
  all_goals first | rfl | (exfalso; omega) | (congr 1; omega)
theorem rot_idL (f : Nat → α) (m b x : Nat) : rotF f m m b x = f x := by
  unfold rotF
  repeat' split
  all_goals first | rfl | (exfalso; omega) | (congr 1; omega)
theorem rot_idR (f : Nat → α) (a m x : Nat) : rotF f a m m x = f x := by
  unfold rotF
  repeat' split
  all_goals first | rfl | (exfalso; omega) | (congr 1; omega)
theorem rot_congr {f g : Nat → α} (h : ∀ x, f x = g x) (a m b x : Nat) : rotF f a m b x = rotF g a m b x := by rw [show f = g from funext h]
/-- One element put in from the left. -/
theorem shR_so (ho : Ordr lt) {f : Nat → α} {a b i : Nat} (hs : SOf lt f (a + 1) b) (hi : a + 1 ≤ i) (hi' : i ≤ b) (h1 : ∀ h, a + 1 ≤ h → h < i → lt (f h) (f a) = true) (h2 : ∀ h, i ≤ h → h < b → lt (f h) (f a) = false) : SOf lt (shR f a (i - 1)) a b := by
  intro p q g1 g2 g3
  unfold shR
  by_cases hp : p < i - 1
  · rw [if_pos (⟨g1, hp⟩ : a ≤ p ∧ p < i - 1)]
    by_cases hq : q < i - 1
    · rw [if_pos (⟨by omega, hq⟩ : a ≤ q ∧ q < i - 1)]
      exact hs _ _ (by omega) (by omega) (by omega)
    · rw [if_neg (by omega)]
      by_cases hq2 : q = i - 1
      · rw [if_pos hq2]
        exact ho.asymm _ _ (h1 _ (by omega) (by omega))
      · rw [if_neg hq2]
        exact hs _ _ (by omega) (by omega) g3
  · rw [if_neg (by omega : ¬ (a ≤ p ∧ p < i - 1)), if_neg (by omega : ¬ (a ≤ q ∧ q < i - 1)), if_neg (by omega : ¬ q = i - 1)]
    split
    · exact h2 _ (by omega) g3
    · exact hs _ _ (by omega) g2 g3
theorem shL_so (ho : Ordr lt) {f : Nat → α} {a m i : Nat} (hs : SOf lt f a m) (hi : a ≤ i) (hi' : i ≤ m) (h1 : ∀ h, a ≤ h → h < i → lt (f m) (f h) = false) (h2 : ∀ h, i ≤ h → h < m → lt (f m) (f h) = true) : SOf lt (shL f m i) a (m + 1) := by
  intro p q g1 g2 g3
  unfold shL
  by_cases hp : p < i
  · rw [if_neg (by omega : ¬ (i < p ∧ p ≤ m)), if_neg (by omega : ¬ p = i)]
    by_cases hq : i < q
    · rw [if_pos (by omega : i < q ∧ q ≤ m)]
      exact hs _ _ g1 (by omega) (by omega)
    · rw [if_neg (by omega : ¬ (i < q ∧ q ≤ m))]
      split
      · exact h1 _ g1 hp
      · exact hs _ _ g1 g2 (by omega)
  · rw [if_pos (by omega : i < q ∧ q ≤ m)]
    by_cases hp2 : p = i
    · rw [if_neg (by omega : ¬ (i < p ∧ p ≤ m)), if_pos hp2]
      exact ho.asymm _ _ (h2 _ (by omega) (by omega))
    · rw [if_pos (by omega : i < p ∧ p ≤ m)]
      exact hs _ _ (by omega) (by omega) (by omega)
def Cross (lt : α → α → Bool) (f : Nat → α) (a m b : Nat) : Prop := ∀ x y, a ≤ x → x < m → m ≤ y → y < b → lt (f y) (f x) = false
theorem so_join {f : Nat → α} {a m b : Nat} (h1 : SOf lt f a m) (h2 : SOf lt f m b) (h3 : Cross lt f a m b) : SOf lt f a b := by
  intro i j g1 g2 g3
  by_cases hj : j < m
  · exact h1 i j g1 g2 hj
  · by_cases hi : m ≤ i
    · exact h2 i j hi g2 g3
    · exact h3 i j g1 (by omega) (by omega) g3
theorem Cross.left {M M' : List α} {a m b : Nat} (h : Cross lt (fun k => M.getD k z) a m b) (k : Kept z M M' a m) : Cross lt (fun k => M'.getD k z) a m b := by
  intro x y g1 g2 g3 g4
  obtain ⟨q, q1, q2, e⟩ := k.inn x g1 g2
  show lt (M'.getD y z) (M'.getD x z) = false
  rw [k.out y (.inr g3), e]
  exact h q y q1 q2 g3 g4
theorem Cross.right {M M' : List α} {a m b : Nat} (h : Cross lt (fun k => M.getD k z) a m b) (k : Kept z M M' m b) : Cross lt (fun k => M'.getD k z) a m b := by
  intro x y g1 g2 g3 g4
  obtain ⟨q, q1, q2, e⟩ := k.inn y g3 g4
  show lt (M'.getD y z) (M'.getD x z) = false
  rw [k.out x (.inl g2), e]
  exact h x q g1 g2 q1 q2
/-- Where symMerge cuts: what it found of start. -/
structure Cut (lt : α → α → Bool) (f : Nat → α) (a m b mid start : Nat) : Prop where
  lo : a ≤ start
  hm : start ≤ m
  hd : start ≤ mid
  e1 : m + mid - start ≤ b
  l : ∀ c, a ≤ c → m + mid ≤ c + b → c < start → lt (f (m + mid - 1 - c)) (f c) = false
  r : ∀ c, start ≤ c → c < m → c < mid → lt (f (m + mid - 1 - c)) (f c) = true
/-- Smaller or alike, over one between. -/
theorem Ordr.le3 (ho : Ordr lt) {x y w v : α} (h1 : lt y x = false) (h2 : lt w y = false) (h3 : lt v w = false) : lt v x = false := ho.trans _ _ _ (ho.trans _ _ _ h1 h2) h3
theorem SOf.le (ho : Ordr lt) {f : Nat → α} {a b i j : Nat} (h : SOf lt f a b) (h1 : a ≤ i) (h2 : i ≤ j) (h3 : j < b) : lt (f j) (f i) = false := by
  by_cases e : i = j
  · subst e; exact ho.irrefl _
  · exact h i j h1 (by omega) h3
theorem cut_cross (ho : Ordr lt) {f : Nat → α} {a m b mid start : Nat} (h1 : SOf lt f a m) (h2 : SOf lt f m b) (hc : Cut lt f a m b mid start) (ham : a ≤ m) (hmb : m ≤ b) (hmid : a ≤ mid) (hmid' : mid ≤ b) : Cross lt (rotF f start m (m + mid - start)) a mid b := by
  have hlo := hc.lo
  have hhm := hc.hm
  have hhd := hc.hd
  have he1 := hc.e1
  intro x y g1 g2 g3 g4
  have ex : rotF f start m (m + mid - start) x = if x < start then f x else f (x + (m - start)) := by
    unfold rotF
    repeat' split
    all_goals first | rfl | (exfalso; omega) | (congr 1; omega)
  have ey : rotF f start m (m + mid - start) y = if y < m + mid - start then f (y - (mid - start)) else f y := by
    unfold rotF
    repeat' split
    all_goals first | rfl | (exfalso; omega) | (congr 1; omega)
  rw [ex, ey]
  by_cases hx : x < start
  · rw [if_pos hx]
    by_cases hy : y < m + mid - start
    · rw [if_pos hy]
      exact h1.le ho g1 (by omega) (by omega)
    · rw [if_neg hy]
      have hp := hc.l (start - 1) (by omega) (by omega) (by omega)
      rw [show m + mid - 1 - (start - 1) = m + mid - start by omega] at hp
      exact ho.le3 (h1.le ho (j := start - 1) g1 (by omega) (by omega)) hp (h2.le ho (by omega) (by omega) g4)
  · rw [if_neg hx]
    by_cases hy : y < m + mid - start
    · rw [if_pos hy]
      have hp := hc.r start (Nat.le_refl _) (by omega) (by omega)
      exact ho.le3 (h2.le ho (j := m + mid - 1 - start) (by omega) (by omega) (by omega)) (ho.asymm _ _ hp) (h1.le ho (by omega) (by omega) (by omega))
    · rw [if_neg hy]
      exact h2.le ho (by omega) (by omega) g4
theorem rot_so1 {f : Nat → α} {a m b mid start : Nat} (h1 : SOf lt f a m) (hm : start ≤ m) : SOf lt (rotF f start m (m + mid - start)) a start := by
  intro i j g1 g2 g3
  rw [show rotF f start m (m + mid - start) i = f i by unfold rotF; rw [if_neg (by omega), if_neg (by omega)], show rotF f start m (m + mid - start) j = f j by unfold rotF; rw [if_neg (by omega), if_neg (by omega)]]
  exact h1 i j g1 g2 (by omega)
theorem rot_so2 {f : Nat → α} {a m b mid start : Nat} (h2 : SOf lt f m b) (hm : start ≤ m) (hd : start ≤ mid) (he : m + mid - start ≤ b) : SOf lt (rotF f start m (m + mid - start)) start mid := by
  intro i j g1 g2 g3
  rw [show rotF f start m (m + mid - start) i = f (i + (m - start)) by unfold rotF; rw [if_pos (by omega)], show rotF f start m (m + mid - start) j = f (j + (m - start)) by unfold rotF; rw [if_pos (by omega)]]
  exact h2 _ _ (by omega) (by omega) (by omega)
theorem rot_so3 {f : Nat → α} {a m b mid start : Nat} (h1 : SOf lt f a m) (hlo : a ≤ start) (hm : start ≤ m) (hd : start ≤ mid) : SOf lt (rotF f start m (m + mid - start)) mid (m + mid - start) := by
  intro i j g1 g2 g3
  rw [show rotF f start m (m + mid - start) i = f (i - (mid - start)) by unfold rotF; rw [if_neg (by omega), if_pos (by omega)]; congr 1; omega, show rotF f start m (m + mid - start) j = f (j - (mid - start)) by unfold rotF; rw [if_neg (by omega), if_pos (by omega)]; congr 1; omega]
  exact h1 _ _ (by omega) (by omega) (by omega)
theorem rot_so4 {f : Nat → α} {a m b mid start : Nat} (h2 : SOf lt f m b) (hm : start ≤ m) (hd : start ≤ mid) : SOf lt (rotF f start m (m + mid - start)) (m + mid - start) b := by
  intro i j g1 g2 g3
  rw [show rotF f start m (m + mid - start) i = f i by unfold rotF; rw [if_neg (by omega), if_neg (by omega)], show rotF f start m (m + mid - start) j = f j by unfold rotF; rw [if_neg (by omega), if_neg (by omega)]]
  exact h2 i j (by omega) g2 g3
end
end Go.Proofs.YtkcgokkgefgcjaaDoor.H
end
section
namespace Go.Proofs.YtkcgokkgefgcjaaDoor.H
open Go.RowKit Go.MapKept
set_option linter.unusedVariables false
set_option linter.unusedSimpArgs false
/-- A state with a row at q. -/
def Lay {α : Type} (enc : α → List HV) (rest : List HV) (s : HS) (q : Nat) (M : List α) : HS := s.set q (.cells (rows enc M ++ rest))
section
variable {P : Program} {α : Type} {enc : α → List HV} {sz : Nat} {z : α} {rest : List HV} {s : HS} {q : Nat} {lt : α → α → Bool}
theorem lay_at (M : List α) : Lay enc rest s q M q = some (.cells (rows enc M ++ rest)) := set_at _ _ _
theorem lay_self {t : HS} {M : List α} (h : t q = some (.cells (rows enc M ++ rest))) : Lay enc rest t q M = t := by
  funext k
  simp only [Lay, HS.set]
  split
  · rename_i e; rw [e, h]
  · rfl
theorem lay_set (M M' : List α) : (Lay enc rest s q M).set q (.cells (rows enc M' ++ rest)) = Lay enc rest s q M' := by
  funext k
  simp only [Lay, HS.set]
  split <;> rfl
theorem lay_idx {n : Nat} {f : Bool} {i : Nat} (hi : i < n) : vIdx sz (.view q 0 sz n f) (.lit (.int .i64 i)) = some (.ptr q (i * sz)) := by rw [idx_view .i64 hi, Nat.zero_add]
theorem lay_load (h : ∀ x, (enc x).length = sz) (M : List α) {i : Nat} (hi : i < M.length) : vLoad (Lay enc rest s q M) (.ptr q (i * sz)) sz true = some (.agg (enc (M.getD i z))) := load_rows h z (lay_at M) hi
theorem lay_store (h : ∀ x, (enc x).length = sz) (ho : ∀ x, ∀ y ∈ enc x, hone y = true) (M : List α) {i : Nat} (hi : i < M.length) (v : α) {K : HS → Prop} (hK : K (Lay enc rest s q (M.set i v))) : hStore (Lay enc rest s q M) (.ptr q (i * sz)) (.agg (enc v)) sz K := by
  refine store_rows h (lay_at M) hi v (ho v) ?_
  rw [lay_set]
  exact hK
/-- A comparison answers as the order does, and changes nothing. -/
def CmpOk (P : Program) (cmp : HV) (enc : α → List HV) (lt : α → α → Bool) (rest : List HV) (s : HS) (q : Nat) : Prop :=
  ∀ (M : List α) (x y : α) (K : HV → HS → Prop), (∀ n : Int, (n < 0 ↔ lt x y = true) → K (.lit (.int .i64 n)) (Lay enc rest s q M)) → hcall P cmp [.agg (enc x), .agg (enc y)] (Lay enc rest s q M) K
theorem add_i {a b : Nat} (h : a + b < 9223372036854775808) : vBin .add (.lit (.int .i64 (a : Int))) (.lit (.int .i64 (b : Int))) = some (.lit (.int .i64 ((a + b : Nat) : Int))) := by
  simp only [vBin, if_true]
  rw [w64 (by omega) (by omega), Int.natCast_add]
theorem sub_i {a b : Nat} (h : b ≤ a) (h' : a < 9223372036854775808) : vBin .sub (.lit (.int .i64 (a : Int))) (.lit (.int .i64 (b : Int))) = some (.lit (.int .i64 ((a - b : Nat) : Int))) := by
  simp only [vBin, if_true]
  rw [w64 (by omega) (by omega), Int.natCast_sub h]
theorem mul_i {a b : Nat} (h : a * b < 9223372036854775808) : vBin .mul (.lit (.int .i64 (a : Int))) (.lit (.int .i64 (b : Int))) = some (.lit (.int .i64 ((a * b : Nat) : Int))) := by
  simp only [vBin, if_true]
  rw [← Int.natCast_mul, w64 (by omega) (by omega)]
theorem lss_i (a b : Nat) : vBin .lss (.lit (.int .i64 (a : Int))) (.lit (.int .i64 (b : Int))) = some (.lit (.bool (decide (a < b)))) := by
  simp only [vBin, if_true]
  congr 3
  simp
theorem leq_i (a b : Nat) : vBin .leq (.lit (.int .i64 (a : Int))) (.lit (.int .i64 (b : Int))) = some (.lit (.bool (decide (a ≤ b)))) := by
  simp only [vBin, if_true]
  congr 3
  simp
theorem gtr_i (a b : Nat) : vBin .gtr (.lit (.int .i64 (a : Int))) (.lit (.int .i64 (b : Int))) = some (.lit (.bool (decide (b < a)))) := by
  simp only [vBin, if_true]
  congr 3
  simp
theorem eql_i (d : Option TypeDesc) (a b : Nat) : vCmp d .eql (.lit (.int .i64 (a : Int))) (.lit (.int .i64 (b : Int))) = some (.lit (.bool (decide (a = b)))) := by
  simp only [vCmp, vBin, if_true]
  congr 3
  rw [Bool.eq_iff_iff]
  simp
  exact Int.ofNat_inj
theorem neq_i (d : Option TypeDesc) (a b : Nat) : vCmp d .neq (.lit (.int .i64 (a : Int))) (.lit (.int .i64 (b : Int))) = some (.lit (.bool (decide (a ≠ b)))) := by
  simp only [vCmp, vBin, if_true]
  congr 3
  rw [Bool.eq_iff_iff]
  simp
  exact not_congr Int.ofNat_inj
theorem lt0 {n : Int} : vBin .lss (.lit (.int .i64 n)) (.lit (.int .i64 0)) = some (.lit (.bool (decide (n < 0)))) := by simp only [vBin, if_true]
/-- insertionSortCmpFunc's text. -/
def insT (P : Program) (sz : Nat) (a0 a1 a2 a3 : HV) (s : HS) (Q : HV → HS → Prop) : Prop :=
  bindO (vBin .add a1 (.lit (.int .i64 1))) fun x1 => HLoop (fun y3 s4 K2 => bindO (vBin .lss (y3.headD .junk) a2) fun x5 => hcond x5 (HLoop (fun y7 s8 K6 => Join (fun K9 => bindO (vBin .gtr (y7.headD .junk) a1) fun x12 => hcond x12 (bindO (vIdx sz a0 (y7.headD .junk)) fun x13 => bindO (vLoad s8 x13 sz true) fun x14 => bindO (vBin .sub (y7.headD .junk) (.lit (.int .i64 1))) fun x15 => bindO (vIdx sz a0 x15) fun x16 => bindO (vLoad s8 x16 sz true) fun x17 => hcall P a3 [x14, x17] s8 (fun r18 s19 => bindO (vBin .lss r18 (.lit (.int .i64 0))) fun x20 => K9 [x20] s19)) (K9 [(.lit (.bool false))] s8)) (fun y10 s11 => hcond (y10.headD .junk) (bindO (vBin .sub (y7.headD .junk) (.lit (.int .i64 1))) fun x21 => bindO (vBin .sub (y7.headD .junk) (.lit (.int .i64 1))) fun x22 => bindO (vIdx sz a0 x22) fun x23 => bindO (vLoad s11 x23 sz true) fun x24 => bindO (vIdx sz a0 (y7.headD .junk)) fun x25 => bindO (vLoad s11 x25 sz true) fun x26 => bindO (vIdx sz a0 (y7.headD .junk)) fun x27 => hStore s11 x27 x24 sz (fun s28 => bindO (vIdx sz a0 x21) fun x29 => hStore s28 x29 x26 sz (fun s30 => bindO (vBin .sub (y7.headD .junk) (.lit (.int .i64 1))) fun x31 => K6 [x31] s30))) (bindO (vBin .add (y3.headD .junk) (.lit (.int .i64 1))) fun x32 => K2 [x32] s11))) [(y3.headD .junk)] s4) (Q (.tup []) s4)) [x1] s
/-- Where two elements are put into each other's place. -/
theorem swap_walk (h : ∀ x, (enc x).length = sz) (ho : ∀ x, ∀ y ∈ enc x, hone y = true) {M : List α} {i j : Nat} (hi : i < M.length) (hj : j < M.length) {K : HS → Prop} (hK : K (Lay enc rest s q (swap z M i j))) :
    hStore (Lay enc rest s q M) (.ptr q (i * sz)) (.agg (enc (M.getD j z))) sz (fun s28 => hStore s28 (.ptr q (j * sz)) (.agg (enc (M.getD i z))) sz K) := by
  refine lay_store h ho M hi _ ?_
  exact lay_store h ho _ (by rw [List.length_set]; exact hj) _ hK
theorem ins_ok (hO : Ordr lt) (h : ∀ x, (enc x).length = sz) (ho : ∀ x, ∀ y ∈ enc x, hone y = true) {cmp : HV} (hc : CmpOk P cmp enc lt rest s q) {M : List α} {a b : Nat} {f : Bool} {Q : HV → HS → Prop} (hb : b ≤ M.length) (hl : M.length < 1099511627776) (hab : a ≤ b)
    (hQ : ∀ M', Kept z M M' a b → SO z lt M' a b → Q (.tup []) (Lay enc rest s q M')) :
    insT P sz (.view q 0 sz M.length f) (.lit (.int .i64 (a : Int))) (.lit (.int .i64 (b : Int))) cmp (Lay enc rest s q M) Q := by
  unfold insT
  rw [show (HV.lit (.int .i64 1)) = .lit (.int .i64 ((1 : Nat) : Int)) from rfl, add_i (by omega)]
  simp only [bindO]
  refine HLoop.ghost (σ := Nat × List α) (fun g => [.lit (.int .i64 (g.1 : Int))]) (fun g t => a + 1 ≤ g.1 ∧ (g.1 ≤ b ∨ g.1 = a + 1) ∧ Kept z M g.2 a b ∧ SO z lt g.2 a (min g.1 b) ∧ t = Lay enc rest s q g.2) (fun g => b - g.1) (a + 1, M) rfl ⟨Nat.le_refl _, .inr rfl, Kept.refl M a b, ?_, rfl⟩ ?_
  · intro i j g1 g2 g3
    omega
  rintro ⟨i, M1⟩ t K ⟨h1, h2, h3, h4, rfl⟩ hK
  simp only at h1 h2 h3 h4
  have hlen := h3.len
  simp only [List.headD_cons, lss_i]
  by_cases hib : i < b
  · simp only [hib, decide_true, hcond]
    rw [Nat.min_eq_left (by omega)] at h4
    refine HLoop.ghost (σ := Nat × List α) (fun g => [.lit (.int .i64 (g.1 : Int))]) (fun g t => a ≤ g.1 ∧ g.1 ≤ i ∧ Kept z M g.2 a b ∧ Ins z lt g.2 a i g.1 ∧ t = Lay enc rest s q g.2) (fun g => g.1) (i, M1) rfl ⟨by omega, Nat.le_refl _, h3, Ins.start h4, rfl⟩ ?_
    rintro ⟨j, M2⟩ t K2 ⟨k1, k2, k3, k4, rfl⟩ hK2
    simp only at k1 k2 k3 k4
    have hlen2 := k3.len
    simp only [List.headD_cons, gtr_i]
    refine Join.of (fun xs t => t = Lay enc rest s q M2 ∧ ∃ c : Bool, xs = [.lit (.bool c)] ∧ (c = true → a < j ∧ lt (M2.getD j z) (M2.getD (j - 1) z) = true) ∧ (c = false → j = a ∨ lt (M2.getD j z) (M2.getD (j - 1) z) = false)) ?_ ?_
    · rintro _ t ⟨rfl, c, rfl, c1, c2⟩
      cases c with
      | true =>
        obtain ⟨c3, c4⟩ := c1 rfl
        simp only [List.headD_cons, sub_i (show 1 ≤ j by omega) (by omega), lay_idx (show j - 1 < M.length by omega), lay_idx (show j < M.length by omega), lay_load (z := z) h M2 (show j - 1 < M2.length by omega), lay_load (z := z) h M2 (show j < M2.length by omega)]
        refine swap_walk (M := M2) (i := j) (j := j - 1) h ho (by omega) (by omega) ?_
        exact hK2 (j - 1, swap z M2 j (j - 1)) _ _ rfl ⟨by show a ≤ j - 1; omega, by show j - 1 ≤ i; omega, k3.trans (Kept.swap (by omega) (by omega) (by omega) (by omega) (by omega) (by omega)), Ins.step hO k4 (by omega) k2 c3 c4, rfl⟩ (by show j - 1 < j; omega)
      | false =>
        simp only [List.headD_cons, add_i (show i + 1 < 9223372036854775808 by omega)]
        have hso := Ins.stop hO k4 k1 k2 (c2 rfl)
        exact hK (i + 1, M2) _ _ rfl ⟨by show a + 1 ≤ i + 1; omega, .inl (by show i + 1 ≤ b; omega), k3, by rw [Nat.min_eq_left (by show i + 1 ≤ b; omega)]; exact hso, rfl⟩ (by show b - (i + 1) < b - i; omega)
    · intro K9 hK9
      by_cases hj : a < j
      · simp only [hj, decide_true, sub_i (show 1 ≤ j by omega) (show j < 9223372036854775808 by omega), lay_idx (show j - 1 < M.length by omega), lay_idx (show j < M.length by omega), lay_load (z := z) h M2 (show j - 1 < M2.length by omega), lay_load (z := z) h M2 (show j < M2.length by omega)]
        refine hc M2 _ _ _ fun n hn => ?_
        simp only [lt0]
        refine hK9 _ _ ⟨rfl, _, rfl, fun e => ⟨hj, hn.1 (by simpa using e)⟩, fun e => .inr ?_⟩
        cases e2 : lt (M2.getD j z) (M2.getD (j - 1) z) with
        | false => rfl
        | true => exact absurd (hn.2 e2) (by simpa using e)
      · simp only [hj, decide_false]
        exact hK9 _ _ ⟨rfl, _, rfl, fun e => by simp at e, fun _ => .inl (by omega)⟩
  · simp only [hib, decide_false, hcond]
    rw [Nat.min_eq_right (by omega)] at h4
    exact hQ M1 h3 h4
end
end Go.Proofs.YtkcgokkgefgcjaaDoor.H
end
section
namespace Go.Proofs.YtkcgokkgefgcjaaDoor.H
open Go.RowKit Go.MapKept
set_option linter.unusedVariables false
set_option linter.unusedSimpArgs false
def swrT (P : Program) (sz : Nat) (a0 a1 a2 a3 a4 : HV) (s : HS) (Q : HV → HS → Prop) : Prop :=
  HLoop (fun y2 s3 K1 => bindO (vBin .lss (y2.headD .junk) a3) fun x4 => hcond x4 (bindO (vBin .add a1 (y2.headD .junk)) fun x5 => bindO (vBin .add a2 (y2.headD .junk)) fun x6 => bindO (vBin .add a2 (y2.headD .junk)) fun x7 => bindO (vIdx sz a0 x7) fun x8 => bindO (vLoad s3 x8 sz true) fun x9 => bindO (vBin .add a1 (y2.headD .junk)) fun x10 => bindO (vIdx sz a0 x10) fun x11 => bindO (vLoad s3 x11 sz true) fun x12 => bindO (vIdx sz a0 x5) fun x13 => hStore s3 x13 x9 sz (fun s14 => bindO (vIdx sz a0 x6) fun x15 => hStore s14 x15 x12 sz (fun s16 => bindO (vBin .add (y2.headD .junk) (.lit (.int .i64 1))) fun x17 => K1 [x17] s16))) (Q (.tup []) s3)) [(.lit (.int .i64 0))] s
def rotT (P : Program) (sz : Nat) (u3 gw : Nat) (a0 a1 a2 a3 a4 : HV) (s : HS) (Q : HV → HS → Prop) : Prop :=
  bindO (vBin .sub a2 a1) fun x1 => bindO (vBin .sub a3 a2) fun x2 => HLoop (fun y4 s5 K3 => bindO (vCmp (P.underlying u3) .neq (y4.headD .junk) (y4.tail.headD .junk)) fun x6 => hcond x6 (bindO (vBin .gtr (y4.headD .junk) (y4.tail.headD .junk)) fun x7 => hcond x7 (bindO (vBin .sub a2 (y4.headD .junk)) fun x8 => HC P gw [a0, x8, a2, (y4.tail.headD .junk), a4] s5 (fun r9 s10 => bindO (vBin .sub (y4.headD .junk) (y4.tail.headD .junk)) fun x11 => K3 [x11, (y4.tail.headD .junk)] s10)) (bindO (vBin .sub a2 (y4.headD .junk)) fun x12 => bindO (vBin .add a2 (y4.tail.headD .junk)) fun x13 => bindO (vBin .sub x13 (y4.headD .junk)) fun x14 => HC P gw [a0, x12, x14, (y4.headD .junk), a4] s5 (fun r15 s16 => bindO (vBin .sub (y4.tail.headD .junk) (y4.headD .junk)) fun x17 => K3 [(y4.headD .junk), x17] s16))) (bindO (vBin .sub a2 (y4.headD .junk)) fun x18 => HC P gw [a0, x18, a2, (y4.headD .junk), a4] s5 (fun r19 s20 => Q (.tup []) s20))) [x1, x2] s
def symT (P : Program) (sz : Nat) (u3 gr gs : Nat) (a0 a1 a2 a3 a4 : HV) (s : HS) (Q : HV → HS → Prop) : Prop :=
  bindO (vBin .sub a2 a1) fun x1 => bindO (vCmp (P.underlying u3) .eql x1 (.lit (.int .i64 1))) fun x2 => hcond x2 (HLoop (fun y4 s5 K3 => bindO (vBin .lss (y4.headD .junk) (y4.tail.headD .junk)) fun x6 => hcond x6 (bindO (vBin .add (y4.headD .junk) (y4.tail.headD .junk)) fun x7 => bindO (vToInt .u64 x7) fun x8 => bindO (vBin .shr x8 (.lit (.int .u64 1))) fun x9 => bindO (vToInt .i64 x9) fun x10 => bindO (vIdx sz a0 x10) fun x11 => bindO (vLoad s5 x11 sz true) fun x12 => bindO (vIdx sz a0 a1) fun x13 => bindO (vLoad s5 x13 sz true) fun x14 => hcall P a4 [x12, x14] s5 (fun r15 s16 => bindO (vBin .lss r15 (.lit (.int .i64 0))) fun x17 => hcond x17 (bindO (vBin .add x10 (.lit (.int .i64 1))) fun x18 => K3 [x18, (y4.tail.headD .junk)] s16) (K3 [(y4.headD .junk), x10] s16))) (HLoop (fun y20 s21 K19 => bindO (vBin .sub (y4.headD .junk) (.lit (.int .i64 1))) fun x22 => bindO (vBin .lss (y20.headD .junk) x22) fun x23 => hcond x23 (bindO (vBin .add (y20.headD .junk) (.lit (.int .i64 1))) fun x24 => bindO (vBin .add (y20.headD .junk) (.lit (.int .i64 1))) fun x25 => bindO (vIdx sz a0 x25) fun x26 => bindO (vLoad s21 x26 sz true) fun x27 => bindO (vIdx sz a0 (y20.headD .junk)) fun x28 => bindO (vLoad s21 x28 sz true) fun x29 => bindO (vIdx sz a0 (y20.headD .junk)) fun x30 => hStore s21 x30 x27 sz (fun s31 => bindO (vIdx sz a0 x24) fun x32 => hStore s31 x32 x29 sz (fun s33 => bindO (vBin .add (y20.headD .junk) (.lit (.int .i64 1))) fun x34 => K19 [x34] s33))) (Q (.tup []) s21)) [a1] s5)) [a2, a3] s) (bindO (vBin .sub a3 a2) fun x35 => bindO (vCmp (P.underlying u3) .eql x35 (.lit (.int .i64 1))) fun x36 => hcond x36 (HLoop (fun y38 s39 K37 => bindO (vBin .lss (y38.headD .junk) (y38.tail.headD .junk)) fun x40 => hcond x40 (bindO (vBin .add (y38.headD .junk) (y38.tail.headD .junk)) fun x41 => bindO (vToInt .u64 x41) fun x42 => bindO (vBin .shr x42 (.lit (.int .u64 1))) fun x43 => bindO (vToInt .i64 x43) fun x44 => bindO (vIdx sz a0 a2) fun x45 => bindO (vLoad s39 x45 sz true) fun x46 => bindO (vIdx sz a0 x44) fun x47 => bindO (vLoad s39 x47 sz true) fun x48 => hcall P a4 [x46, x48] s39 (fun r49 s50 => bindO (vBin .lss r49 (.lit (.int .i64 0))) fun x51 => bindO (vUn .not x51) fun x52 => hcond x52 (bindO (vBin .add x44 (.lit (.int .i64 1))) fun x53 => K37 [x53, (y38.tail.headD .junk)] s50) (K37 [(y38.headD .junk), x44] s50))) (HLoop (fun y55 s56 K54 => bindO (vBin .gtr (y55.headD .junk) (y38.headD .junk)) fun x57 => hcond x57 (bindO (vBin .sub (y55.headD .junk) (.lit (.int .i64 1))) fun x58 => bindO (vBin .sub (y55.headD .junk) (.lit (.int .i64 1))) fun x59 => bindO (vIdx sz a0 x59) fun x60 => bindO (vLoad s56 x60 sz true) fun x61 => bindO (vIdx sz a0 (y55.headD .junk)) fun x62 => bindO (vLoad s56 x62 sz true) fun x63 => bindO (vIdx sz a0 (y55.headD .junk)) fun x64 => hStore s56 x64 x61 sz (fun s65 => bindO (vIdx sz a0 x58) fun x66 => hStore s65 x66 x63 sz (fun s67 => bindO (vBin .sub (y55.headD .junk) (.lit (.int .i64 1))) fun x68 => K54 [x68] s67))) (Q (.tup []) s56)) [a2] s39)) [a1, a2] s) (bindO (vBin .add a1 a3) fun x69 => bindO (vToInt .u64 x69) fun x70 => bindO (vBin .shr x70 (.lit (.int .u64 1))) fun x71 => bindO (vToInt .i64 x71) fun x72 => bindO (vBin .add x72 a2) fun x73 => Join (fun K74 => bindO (vBin .gtr a2 x72) fun x77 => hcond x77 (bindO (vBin .sub x73 a3) fun x78 => K74 [x78, x72] s) (K74 [a1, a2] s)) (fun y75 s76 => bindO (vBin .sub x73 (.lit (.int .i64 1))) fun x79 => HLoop (fun y81 s82 K80 => bindO (vBin .lss (y81.headD .junk) (y81.tail.headD .junk)) fun x83 => hcond x83 (bindO (vBin .add (y81.headD .junk) (y81.tail.headD .junk)) fun x84 => bindO (vToInt .u64 x84) fun x85 => bindO (vBin .shr x85 (.lit (.int .u64 1))) fun x86 => bindO (vToInt .i64 x86) fun x87 => bindO (vBin .sub x79 x87) fun x88 => bindO (vIdx sz a0 x88) fun x89 => bindO (vLoad s82 x89 sz true) fun x90 => bindO (vIdx sz a0 x87) fun x91 => bindO (vLoad s82 x91 sz true) fun x92 => hcall P a4 [x90, x92] s82 (fun r93 s94 => bindO (vBin .lss r93 (.lit (.int .i64 0))) fun x95 => bindO (vUn .not x95) fun x96 => hcond x96 (bindO (vBin .add x87 (.lit (.int .i64 1))) fun x97 => K80 [x97, (y81.tail.headD .junk)] s94) (K80 [(y81.headD .junk), x87] s94))) (bindO (vBin .sub x73 (y81.headD .junk)) fun x98 => Join (fun K99 => Join (fun K102 => bindO (vBin .lss (y81.headD .junk) a2) fun x105 => hcond x105 (bindO (vBin .lss a2 x98) fun x106 => K102 [x106] s82) (K102 [(.lit (.bool false))] s82)) (fun y103 s104 => hcond (y103.headD .junk) (HC P gr [a0, (y81.headD .junk), a2, x98, a4] s104 (fun r107 s108 => K99 [] s108)) (K99 [] s104))) (fun y100 s101 => Join (fun K109 => Join (fun K112 => bindO (vBin .lss a1 (y81.headD .junk)) fun x115 => hcond x115 (bindO (vBin .lss (y81.headD .junk) x72) fun x116 => K112 [x116] s101) (K112 [(.lit (.bool false))] s101)) (fun y113 s114 => hcond (y113.headD .junk) (HC P gs [a0, a1, (y81.headD .junk), x72, a4] s114 (fun r117 s118 => K109 [] s118)) (K109 [] s114))) (fun y110 s111 => Join (fun K119 => bindO (vBin .lss x72 x98) fun x122 => hcond x122 (bindO (vBin .lss x98 a3) fun x123 => K119 [x123] s111) (K119 [(.lit (.bool false))] s111)) (fun y120 s121 => hcond (y120.headD .junk) (HC P gs [a0, x72, x98, a3, a4] s121 (fun r124 s125 => Q (.tup []) s125)) (Q (.tup []) s121)))))) [(y75.headD .junk), (y75.tail.headD .junk)] s76)))
def stbT (P : Program) (sz : Nat) (gi gs : Nat) (a0 a1 a2 : HV) (s : HS) (Q : HV → HS → Prop) : Prop :=
  HLoop (fun y2 s3 K1 => bindO (vBin .leq (y2.tail.headD .junk) a1) fun x4 => hcond x4 (HC P gi [a0, (y2.headD .junk), (y2.tail.headD .junk), a2] s3 (fun r5 s6 => bindO (vBin .add (y2.tail.headD .junk) (.lit (.int .i64 20))) fun x7 => K1 [(y2.tail.headD .junk), x7] s6)) (HC P gi [a0, (y2.headD .junk), a1, a2] s3 (fun r8 s9 => HLoop (fun y11 s12 K10 => bindO (vBin .lss (y11.headD .junk) a1) fun x13 => hcond x13 (bindO (vBin .mul (.lit (.int .i64 2)) (y11.headD .junk)) fun x14 => HLoop (fun y16 s17 K15 => bindO (vBin .leq (y16.tail.headD .junk) a1) fun x18 => hcond x18 (bindO (vBin .add (y16.headD .junk) (y11.headD .junk)) fun x19 => HC P gs [a0, (y16.headD .junk), x19, (y16.tail.headD .junk), a2] s17 (fun r20 s21 => bindO (vBin .mul (.lit (.int .i64 2)) (y11.headD .junk)) fun x22 => bindO (vBin .add (y16.tail.headD .junk) x22) fun x23 => K15 [(y16.tail.headD .junk), x23] s21)) (Join (fun K24 => bindO (vBin .add (y16.headD .junk) (y11.headD .junk)) fun x27 => bindO (vBin .lss x27 a1) fun x28 => hcond x28 (HC P gs [a0, (y16.headD .junk), x27, a1, a2] s17 (fun r29 s30 => K24 [] s30)) (K24 [] s17)) (fun y25 s26 => bindO (vBin .mul (y11.headD .junk) (.lit (.int .i64 2))) fun x31 => K10 [x31] s26))) [(.lit (.int .i64 0)), x14] s12) (Q (.tup []) s12)) [(.lit (.int .i64 20))] s9))) [(.lit (.int .i64 0)), (.lit (.int .i64 20))] s
section
variable {P : Program} {α : Type} {enc : α → List HV} {sz : Nat} {z : α} {rest : List HV} {s : HS} {q : Nat} {lt : α → α → Bool} {N : Nat} {f : Bool} {cmp : HV}
theorem wlit0 : HV.lit (.int .i64 0) = .lit (.int .i64 ((0 : Nat) : Int)) := rfl
theorem wlit1 : HV.lit (.int .i64 1) = .lit (.int .i64 ((1 : Nat) : Int)) := rfl
def SwrOk (P : Program) (gw : Nat) (enc : α → List HV) (sz : Nat) (z : α) (rest : List HV) (s : HS) (q N : Nat) (f : Bool) (cmp : HV) : Prop :=
  ∀ (M : List α) (p r n : Nat) (Q : HV → HS → Prop), M.length = N → p + n ≤ r → r + n ≤ N → (∀ M', Kept z M M' p (r + n) → (∀ x, M'.getD x z = swF (fun k => M.getD k z) p r n x) → Q (.tup []) (Lay enc rest s q M')) →
    HC P gw [.view q 0 sz N f, .lit (.int .i64 (p : Int)), .lit (.int .i64 (r : Int)), .lit (.int .i64 (n : Int)), cmp] (Lay enc rest s q M) Q
theorem swr_ok (h : ∀ x, (enc x).length = sz) (ho : ∀ x, ∀ y ∈ enc x, hone y = true) {M : List α} {p r n : Nat} {Q : HV → HS → Prop} (hN : M.length = N) (hl : N < 1099511627776) (h1 : p + n ≤ r) (h2 : r + n ≤ N)
    (hQ : ∀ M', Kept z M M' p (r + n) → (∀ x, M'.getD x z = swF (fun k => M.getD k z) p r n x) → Q (.tup []) (Lay enc rest s q M')) :
    swrT P sz (.view q 0 sz N f) (.lit (.int .i64 (p : Int))) (.lit (.int .i64 (r : Int))) (.lit (.int .i64 (n : Int))) cmp (Lay enc rest s q M) Q := by
  unfold swrT
  rw [wlit0]
  refine HLoop.ghost (σ := Nat × List α) (fun g => [.lit (.int .i64 (g.1 : Int))]) (fun g t => g.1 ≤ n ∧ Kept z M g.2 p (r + n) ∧ (∀ x, g.2.getD x z = swF (fun k => M.getD k z) p r g.1 x) ∧ t = Lay enc rest s q g.2) (fun g => n - g.1) (0, M) rfl ⟨Nat.zero_le _, Kept.refl _ _ _, fun x => by rw [swF_zero], rfl⟩ ?_
  rintro ⟨i, M1⟩ t K ⟨k1, k2, k3, rfl⟩ hK
  simp only at k1 k2 k3
  have hlen := k2.len
  simp only [List.headD_cons, lss_i, bindO]
  by_cases hi : i < n
  · simp only [hi, decide_true, hcond, add_i (show p + i < 9223372036854775808 by omega), add_i (show r + i < 9223372036854775808 by omega), lay_idx (show p + i < N by omega), lay_idx (show r + i < N by omega), lay_load (z := z) h M1 (show p + i < M1.length by omega), lay_load (z := z) h M1 (show r + i < M1.length by omega)]
    refine swap_walk (M := M1) (i := p + i) (j := r + i) h ho (by omega) (by omega) ?_
    rw [wlit1, add_i (show i + 1 < 9223372036854775808 by omega)]
    exact hK (i + 1, swap z M1 (p + i) (r + i)) _ _ rfl ⟨hi, k2.trans (Kept.swap (by omega) (by omega) (by omega) (by omega) (by omega) (by omega)), swF_step k3 (by omega) (by omega), rfl⟩ (by show n - (i + 1) < n - i; omega)
  · simp only [hi, decide_false, hcond]
    obtain rfl : i = n := by omega
    exact hQ M1 k2 k3
def RotOk (P : Program) (gr : Nat) (enc : α → List HV) (sz : Nat) (z : α) (rest : List HV) (s : HS) (q N : Nat) (f : Bool) (cmp : HV) : Prop :=
  ∀ (M : List α) (a m b : Nat) (Q : HV → HS → Prop), M.length = N → a < m → m < b → b ≤ N → (∀ M', Kept z M M' a b → (∀ x, M'.getD x z = rotF (fun k => M.getD k z) a m b x) → Q (.tup []) (Lay enc rest s q M')) →
    HC P gr [.view q 0 sz N f, .lit (.int .i64 (a : Int)), .lit (.int .i64 (m : Int)), .lit (.int .i64 (b : Int)), cmp] (Lay enc rest s q M) Q
theorem rot_ok {u3 gw : Nat} (hw : SwrOk P gw enc sz z rest s q N f cmp) {M : List α} {a m b : Nat} {Q : HV → HS → Prop} (hN : M.length = N) (hl : N < 1099511627776) (h1 : a < m) (h2 : m < b) (h3 : b ≤ N)
    (hQ : ∀ M', Kept z M M' a b → (∀ x, M'.getD x z = rotF (fun k => M.getD k z) a m b x) → Q (.tup []) (Lay enc rest s q M')) :
    rotT P sz u3 gw (.view q 0 sz N f) (.lit (.int .i64 (a : Int))) (.lit (.int .i64 (m : Int))) (.lit (.int .i64 (b : Int))) cmp (Lay enc rest s q M) Q := by
  unfold rotT
  simp only [sub_i (show a ≤ m by omega) (show m < 9223372036854775808 by omega), sub_i (show m ≤ b by omega) (show b < 9223372036854775808 by omega), bindO]
  refine HLoop.ghost (σ := Nat × Nat × List α) (fun g => [.lit (.int .i64 (g.1 : Int)), .lit (.int .i64 (g.2.1 : Int))]) (fun g t => 0 < g.1 ∧ 0 < g.2.1 ∧ g.1 + a ≤ m ∧ m + g.2.1 ≤ b ∧ Kept z M g.2.2 a b ∧ (∀ x, rotF (fun k => M.getD k z) a m b x = rotF (fun k => g.2.2.getD k z) (m - g.1) m (m + g.2.1) x) ∧ t = Lay enc rest s q g.2.2) (fun g => g.1 + g.2.1) (m - a, b - m, M) rfl
    ⟨by show 0 < m - a; omega, by show 0 < b - m; omega, by show m - a + a ≤ m; omega, by show m + (b - m) ≤ b; omega, Kept.refl _ _ _, fun x => by show _ = rotF _ (m - (m - a)) m (m + (b - m)) x; rw [show m - (m - a) = a by omega, show m + (b - m) = b by omega], rfl⟩ ?_
  rintro ⟨i, j, M1⟩ t K ⟨k1, k2, k3, k4, k5, k6, rfl⟩ hK
  simp only at k1 k2 k3 k4 k5 k6
  have hlen := k5.len
  simp only [List.headD_cons, List.tail_cons, neq_i]
  by_cases hij : i = j
  · subst hij
    simp only [ne_eq, not_true_eq_false, decide_false, hcond, sub_i (show i ≤ m by omega) (show m < 9223372036854775808 by omega)]
    refine hw M1 (m - i) m i _ (by omega) (by omega) (by omega) fun M' e1 e2 => ?_
    refine hQ M' (k5.trans (e1.wide (by omega) (by omega))) fun x => ?_
    rw [e2, k6, rot_end _ (by omega)]
  · simp only [ne_eq, hij, not_false_eq_true, decide_true, hcond, gtr_i]
    by_cases hgt : j < i
    · simp only [hgt, decide_true, sub_i (show i ≤ m by omega) (show m < 9223372036854775808 by omega)]
      refine hw M1 (m - i) m j _ (by omega) (by omega) (by omega) fun M' e1 e2 => ?_
      rw [sub_i (show j ≤ i by omega) (show i < 9223372036854775808 by omega)]
      refine hK (i - j, j, M') _ _ rfl ⟨by show 0 < i - j; omega, k2, by show i - j + a ≤ m; omega, k4, k5.trans (e1.wide (by omega) (by omega)), fun x => ?_, rfl⟩ (by show i - j + j < i + j; omega)
      rw [k6, rot_step1 _ (by omega) hgt]
      exact rot_congr (fun y => (e2 y).symm) _ _ _ _
    · simp only [hgt, decide_false, sub_i (show i ≤ m by omega) (show m < 9223372036854775808 by omega), add_i (show m + j < 9223372036854775808 by omega), sub_i (show i ≤ m + j by omega) (show m + j < 9223372036854775808 by omega)]
      refine hw M1 (m - i) (m + j - i) i _ (by omega) (by omega) (by omega) fun M' e1 e2 => ?_
      rw [sub_i (show i ≤ j by omega) (show j < 9223372036854775808 by omega)]
      refine hK (i, j - i, M') _ _ rfl ⟨k1, by show 0 < j - i; omega, k3, by show m + (j - i) ≤ b; omega, k5.trans (e1.wide (by omega) (by omega)), fun x => ?_, rfl⟩ (by show i + (j - i) < i + j; omega)
      rw [k6, rot_step2 _ (by omega) (by omega)]
      exact rot_congr (fun y => (e2 y).symm) _ _ _ _
end
end Go.Proofs.YtkcgokkgefgcjaaDoor.H
end
section
namespace Go.Proofs.YtkcgokkgefgcjaaDoor.H
open Go.RowKit Go.MapKept
set_option linter.unusedVariables false
set_option linter.unusedSimpArgs false
section
variable {P : Program} {α : Type} {enc : α → List HV} {sz : Nat} {z : α} {rest : List HV} {s : HS} {q : Nat} {lt : α → α → Bool} {N : Nat} {f : Bool} {cmp : HV}
theorem u64_i {n : Nat} (h : n < 9223372036854775808) : vToInt .u64 (.lit (.int .i64 (n : Int))) = some (.lit (.int .u64 (n : Int))) := by
  have e1 : IntKind.u64.wrap (n : Int) = (n : Int) := by
    have : IntKind.u64.wrap (n : Int) = (n : Int) % 18446744073709551616 := by simp [IntKind.wrap, IntKind.signed, IntKind.bits]
    rw [this]; omega
  simp only [vToInt, e1]
theorem shr_i (n : Nat) : vBin .shr (.lit (.int .u64 (n : Int))) (.lit (.int .u64 1)) = some (.lit (.int .u64 ((n / 2 : Nat) : Int))) := by
  have e2 : (n : Int).fdiv (2 ^ (min (1 : Int).toNat 64)) = ((n / 2 : Nat) : Int) := by
    show (n : Int).fdiv 2 = _
    rw [Int.fdiv_eq_ediv_of_nonneg _ (by omega)]
    omega
  show (if (1 : Int) < 0 then none else some (HV.lit (.int .u64 ((n : Int).fdiv (2 ^ (min (1 : Int).toNat 64)))))) = _
  rw [if_neg (by omega), e2]
theorem i64_i {n : Nat} (h : n < 9223372036854775808) : vToInt .i64 (.lit (.int .u64 (n : Int))) = some (.lit (.int .i64 (n : Int))) := by
  simp only [vToInt]
  rw [w64 (by omega) (by omega)]
def SymOk (P : Program) (gs : Nat) (enc : α → List HV) (sz : Nat) (z : α) (lt : α → α → Bool) (rest : List HV) (s : HS) (q N : Nat) (f : Bool) (cmp : HV) (d : Nat) : Prop :=
  ∀ (M : List α) (a m b : Nat) (Q : HV → HS → Prop), b - a < d → M.length = N → a < m → m < b → b ≤ N → SO z lt M a m → SO z lt M m b → (∀ M', Kept z M M' a b → SO z lt M' a b → Q (.tup []) (Lay enc rest s q M')) →
    HC P gs [.view q 0 sz N f, .lit (.int .i64 (a : Int)), .lit (.int .i64 (m : Int)), .lit (.int .i64 (b : Int)), cmp] (Lay enc rest s q M) Q
theorem sym_step {u3 gr gs : Nat} (hO : Ordr lt) (h : ∀ x, (enc x).length = sz) (ho : ∀ x, ∀ y ∈ enc x, hone y = true) (hc : CmpOk P cmp enc lt rest s q) (hr : RotOk P gr enc sz z rest s q N f cmp)
    {M : List α} {a m b : Nat} {Q : HV → HS → Prop} (ih : SymOk P gs enc sz z lt rest s q N f cmp (b - a)) (hN : M.length = N) (hl : N < 1099511627776) (h1 : a < m) (h2 : m < b) (h3 : b ≤ N) (s1 : SO z lt M a m) (s2 : SO z lt M m b)
    (hQ : ∀ M', Kept z M M' a b → SO z lt M' a b → Q (.tup []) (Lay enc rest s q M')) :
    symT P sz u3 gr gs (.view q 0 sz N f) (.lit (.int .i64 (a : Int))) (.lit (.int .i64 (m : Int))) (.lit (.int .i64 (b : Int))) cmp (Lay enc rest s q M) Q := by
  have t1 : SOf lt (fun k => M.getD k z) a m := s1
  have t2 : SOf lt (fun k => M.getD k z) m b := s2
  have ld : ∀ i, i < N → vLoad (Lay enc rest s q M) (.ptr q (i * sz)) sz true = some (.agg (enc (M.getD i z))) := fun i hi => lay_load h M (by omega)
  have lss0 : ∀ n : Int, vBin .lss (.lit (.int .i64 n)) (.lit (.int .i64 0)) = some (.lit (.bool (decide (n < 0)))) := fun n => lt0
  unfold symT
  simp only [sub_i (show a ≤ m by omega) (show m < 9223372036854775808 by omega), bindO]
  rw [wlit1, eql_i]
  by_cases hc1 : m - a = 1
  · obtain rfl : m = a + 1 := by omega
    simp only [hc1, decide_true, hcond]
    refine HLoop.ghost (σ := Nat × Nat) (fun g => [.lit (.int .i64 (g.1 : Int)), .lit (.int .i64 (g.2 : Int))]) (fun g t => t = Lay enc rest s q M ∧ a + 1 ≤ g.1 ∧ g.1 ≤ g.2 ∧ g.2 ≤ b ∧ (∀ k, a + 1 ≤ k → k < g.1 → lt (M.getD k z) (M.getD a z) = true) ∧ (∀ k, g.2 ≤ k → k < b → lt (M.getD k z) (M.getD a z) = false)) (fun g => g.2 - g.1) (a + 1, b) rfl
      ⟨rfl, Nat.le_refl _, by show a + 1 ≤ b; omega, Nat.le_refl _, fun k k1 k2 => by simp only at k2; omega, fun k k1 k2 => by simp only at k1; omega⟩ ?_
    rintro ⟨i, j⟩ t K ⟨rfl, k1, k2, k3, k4, k5⟩ hK
    simp only at k1 k2 k3 k4 k5
    simp only [List.headD_cons, List.tail_cons, lss_i]
    by_cases hij : i < j
    · simp only [hij, decide_true, add_i (show i + j < 9223372036854775808 by omega), u64_i (show i + j < 9223372036854775808 by omega), shr_i, i64_i (show (i + j) / 2 < 9223372036854775808 by omega)]
      obtain ⟨c, hcd⟩ : ∃ c, c = (i + j) / 2 := ⟨_, rfl⟩
      have hci : i ≤ c := by omega
      have hcj : c < j := by omega
      rw [← hcd]
      simp only [lay_idx (show c < N by omega), lay_idx (show a < N by omega), ld c (by omega), ld a (by omega)]
      refine hc M _ _ _ fun n hn => ?_
      simp only [lss0]
      by_cases hn0 : n < 0
      · simp only [hn0, decide_true, add_i (show c + 1 < 9223372036854775808 by omega)]
        have hl0 := hn.1 hn0
        refine hK (c + 1, j) _ _ rfl ⟨rfl, by show a + 1 ≤ c + 1; omega, by show c + 1 ≤ j; omega, k3, fun k g1 g2 => ?_, k5⟩ (by show j - (c + 1) < j - i; omega)
        simp only at g2
        cases e : lt (M.getD k z) (M.getD a z) with
        | true => rfl
        | false =>
          have := hO.trans _ _ _ e (t2.le hO (i := k) (j := c) (by omega) (by omega) (by omega))
          rw [hl0] at this; cases this
      · simp only [hn0, decide_false]
        have hl0 : lt (M.getD c z) (M.getD a z) = false := by
          cases e : lt (M.getD c z) (M.getD a z) with
          | false => rfl
          | true => exact absurd (hn.2 e) hn0
        refine hK (i, c) _ _ rfl ⟨rfl, k1, hci, by show c ≤ b; omega, k4, fun k g1 g2 => ?_⟩ (by show c - i < j - i; omega)
        simp only at g1
        exact hO.trans _ _ _ hl0 (t2.le hO (i := c) (j := k) (by omega) (by omega) (by omega))
    · simp only [hij, decide_false]
      obtain rfl : i = j := by omega
      refine HLoop.ghost (σ := Nat × List α) (fun g => [.lit (.int .i64 (g.1 : Int))]) (fun g t => a ≤ g.1 ∧ g.1 ≤ i - 1 ∧ Kept z M g.2 a b ∧ (∀ x, g.2.getD x z = shR (fun k => M.getD k z) a g.1 x) ∧ t = Lay enc rest s q g.2) (fun g => i - g.1) (a, M) rfl
        ⟨Nat.le_refl _, by show a ≤ i - 1; omega, Kept.refl _ _ _, fun x => by rw [shR_zero], rfl⟩ ?_
      rintro ⟨k, M1⟩ t K2 ⟨g1, g2, g3, g4, rfl⟩ hK2
      simp only at g1 g2 g3 g4
      have hlen := g3.len
      simp only [List.headD_cons, sub_i (show 1 ≤ i by omega) (show i < 9223372036854775808 by omega), lss_i]
      by_cases hki : k < i - 1
      · simp only [hki, decide_true, add_i (show k + 1 < 9223372036854775808 by omega), lay_idx (show k + 1 < N by omega), lay_idx (show k < N by omega), lay_load (z := z) h M1 (show k + 1 < M1.length by omega), lay_load (z := z) h M1 (show k < M1.length by omega)]
        refine swap_walk (M := M1) (i := k) (j := k + 1) h ho (by omega) (by omega) ?_
        exact hK2 (k + 1, swap z M1 k (k + 1)) _ _ rfl ⟨by show a ≤ k + 1; omega, by show k + 1 ≤ i - 1; omega, g3.trans (Kept.swap (by omega) (by omega) (by omega) (by omega) (by omega) (by omega)), shR_step g4 g1 (by omega), rfl⟩ (by show i - (k + 1) < i - k; omega)
      · simp only [hki, decide_false]
        obtain rfl : k = i - 1 := by omega
        refine hQ M1 g3 ?_
        have := shR_so hO t2 k1 k3 k4 k5
        rw [so_iff, show (fun k => M1.getD k z) = shR (fun k => M.getD k z) a (i - 1) from funext g4]
        exact this
  · simp only [hc1, decide_false, hcond, sub_i (show m ≤ b by omega) (show b < 9223372036854775808 by omega), eql_i]
    by_cases hc2 : b - m = 1
    · obtain rfl : b = m + 1 := by omega
      simp only [hc2, decide_true]
      refine HLoop.ghost (σ := Nat × Nat) (fun g => [.lit (.int .i64 (g.1 : Int)), .lit (.int .i64 (g.2 : Int))]) (fun g t => t = Lay enc rest s q M ∧ a ≤ g.1 ∧ g.1 ≤ g.2 ∧ g.2 ≤ m ∧ (∀ k, a ≤ k → k < g.1 → lt (M.getD m z) (M.getD k z) = false) ∧ (∀ k, g.2 ≤ k → k < m → lt (M.getD m z) (M.getD k z) = true)) (fun g => g.2 - g.1) (a, m) rfl
        ⟨rfl, Nat.le_refl _, by show a ≤ m; omega, Nat.le_refl _, fun k k1 k2 => by simp only at k2; omega, fun k k1 k2 => by simp only at k1; omega⟩ ?_
      rintro ⟨i, j⟩ t K ⟨rfl, k1, k2, k3, k4, k5⟩ hK
      simp only at k1 k2 k3 k4 k5
      simp only [List.headD_cons, List.tail_cons, lss_i]
      by_cases hij : i < j
      · simp only [hij, decide_true, add_i (show i + j < 9223372036854775808 by omega), u64_i (show i + j < 9223372036854775808 by omega), shr_i, i64_i (show (i + j) / 2 < 9223372036854775808 by omega)]
        obtain ⟨c, hcd⟩ : ∃ c, c = (i + j) / 2 := ⟨_, rfl⟩
        have hci : i ≤ c := by omega
        have hcj : c < j := by omega
        rw [← hcd]
        simp only [lay_idx (show c < N by omega), lay_idx (show m < N by omega), ld c (by omega), ld m (by omega)]
        refine hc M _ _ _ fun n hn => ?_
        simp only [lss0, vUn]
        by_cases hn0 : n < 0
        · simp only [hn0, decide_true, Bool.not_true]
          have hl0 := hn.1 hn0
          refine hK (i, c) _ _ rfl ⟨rfl, k1, hci, by show c ≤ m; omega, k4, fun k g1 g2 => ?_⟩ (by show c - i < j - i; omega)
          simp only at g1
          cases e : lt (M.getD m z) (M.getD k z) with
          | true => rfl
          | false =>
            have := hO.trans _ _ _ (t1.le hO (i := c) (j := k) (by omega) (by omega) (by omega)) e
            rw [hl0] at this; cases this
        · simp only [hn0, decide_false, Bool.not_false, add_i (show c + 1 < 9223372036854775808 by omega)]
          have hl0 : lt (M.getD m z) (M.getD c z) = false := by
            cases e : lt (M.getD m z) (M.getD c z) with
            | false => rfl
            | true => exact absurd (hn.2 e) hn0
          refine hK (c + 1, j) _ _ rfl ⟨rfl, by show a ≤ c + 1; omega, by show c + 1 ≤ j; omega, k3, fun k g1 g2 => ?_, k5⟩ (by show j - (c + 1) < j - i; omega)
          simp only at g2
          exact hO.trans _ _ _ (t1.le hO (i := k) (j := c) (by omega) (by omega) (by omega)) hl0
      · simp only [hij, decide_false]
        obtain rfl : i = j := by omega
        refine HLoop.ghost (σ := Nat × List α) (fun g => [.lit (.int .i64 (g.1 : Int))]) (fun g t => i ≤ g.1 ∧ g.1 ≤ m ∧ Kept z M g.2 a (m + 1) ∧ (∀ x, g.2.getD x z = shL (fun k => M.getD k z) m g.1 x) ∧ t = Lay enc rest s q g.2) (fun g => g.1) (m, M) rfl
          ⟨k3, Nat.le_refl _, Kept.refl _ _ _, fun x => by rw [shL_zero], rfl⟩ ?_
        rintro ⟨k, M1⟩ t K2 ⟨g1, g2, g3, g4, rfl⟩ hK2
        simp only at g1 g2 g3 g4
        have hlen := g3.len
        simp only [List.headD_cons, gtr_i]
        by_cases hki : i < k
        · simp only [hki, decide_true, sub_i (show 1 ≤ k by omega) (show k < 9223372036854775808 by omega), lay_idx (show k - 1 < N by omega), lay_idx (show k < N by omega), lay_load (z := z) h M1 (show k - 1 < M1.length by omega), lay_load (z := z) h M1 (show k < M1.length by omega)]
          refine swap_walk (M := M1) (i := k) (j := k - 1) h ho (by omega) (by omega) ?_
          exact hK2 (k - 1, swap z M1 k (k - 1)) _ _ rfl ⟨by show i ≤ k - 1; omega, by show k - 1 ≤ m; omega, g3.trans (Kept.swap (by omega) (by omega) (by omega) (by omega) (by omega) (by omega)), shL_step g4 g2 (by omega) (by omega), rfl⟩ (by show k - 1 < k; omega)
        · simp only [hki, decide_false]
          obtain rfl : k = i := by omega
          refine hQ M1 g3 ?_
          have := shL_so hO t1 k1 k3 k4 k5
          rw [so_iff, show (fun k => M1.getD k z) = shL (fun k => M.getD k z) m k from funext g4]
          exact this
    · simp only [hc2, decide_false, add_i (show a + b < 9223372036854775808 by omega), u64_i (show a + b < 9223372036854775808 by omega), shr_i, i64_i (show (a + b) / 2 < 9223372036854775808 by omega)]
      obtain ⟨mid, hmd⟩ : ∃ mid, mid = (a + b) / 2 := ⟨_, rfl⟩
      rw [← hmd]
      simp only [add_i (show mid + m < 9223372036854775808 by omega)]
      refine Join.of (fun xs t => t = Lay enc rest s q M ∧ ∃ lo hi : Nat, xs = [.lit (.int .i64 (lo : Int)), .lit (.int .i64 (hi : Int))] ∧ (mid < m ∧ lo = mid + m - b ∧ hi = mid ∨ m ≤ mid ∧ lo = a ∧ hi = m)) ?_ ?_
      rotate_left
      · intro K hK
        simp only [gtr_i]
        by_cases hgt : mid < m
        · simp only [hgt, decide_true, sub_i (show b ≤ mid + m by omega) (show mid + m < 9223372036854775808 by omega)]
          exact hK _ _ ⟨rfl, _, _, rfl, .inl ⟨hgt, rfl, rfl⟩⟩
        · simp only [hgt, decide_false]
          exact hK _ _ ⟨rfl, _, _, rfl, .inr ⟨by omega, rfl, rfl⟩⟩
      rintro _ t ⟨rfl, lo, hi, rfl, hlh⟩
      simp only [List.headD_cons, List.tail_cons, sub_i (show 1 ≤ mid + m by omega) (show mid + m < 9223372036854775808 by omega)]
      have hlo1 : a ≤ lo := by omega
      have hlo2 : lo ≤ hi := by omega
      have hlo3 : hi ≤ m := by omega
      have hlo4 : hi ≤ mid := by omega
      have hlo5 : mid + m ≤ lo + b := by omega
      have hlo6 : mid + m - 1 - (hi - 1) ≤ mid + m := by omega
      have hpm : ∀ c, c < hi → m ≤ mid + m - 1 - c := fun c hc => by omega
      have hpb : ∀ c, lo ≤ c → mid + m - 1 - c < b := fun c hc => by omega
      refine HLoop.ghost (σ := Nat × Nat) (fun g => [.lit (.int .i64 (g.1 : Int)), .lit (.int .i64 (g.2 : Int))]) (fun g t => t = Lay enc rest s q M ∧ lo ≤ g.1 ∧ g.1 ≤ g.2 ∧ g.2 ≤ hi ∧ (∀ c, lo ≤ c → c < g.1 → lt (M.getD (mid + m - 1 - c) z) (M.getD c z) = false) ∧ (∀ c, g.2 ≤ c → c < hi → lt (M.getD (mid + m - 1 - c) z) (M.getD c z) = true)) (fun g => g.2 - g.1) (lo, hi) rfl
        ⟨rfl, Nat.le_refl _, hlo2, Nat.le_refl _, fun k k1 k2 => by simp only at k2; omega, fun k k1 k2 => by simp only at k1; omega⟩ ?_
      rintro ⟨i, j⟩ t K ⟨rfl, k1, k2, k3, k4, k5⟩ hK
      simp only at k1 k2 k3 k4 k5
      simp only [List.headD_cons, List.tail_cons, lss_i]
      by_cases hij : i < j
      · simp only [hij, decide_true, add_i (show i + j < 9223372036854775808 by omega), u64_i (show i + j < 9223372036854775808 by omega), shr_i, i64_i (show (i + j) / 2 < 9223372036854775808 by omega)]
        obtain ⟨c, hcd⟩ : ∃ c, c = (i + j) / 2 := ⟨_, rfl⟩
        have hci : i ≤ c := by omega
        have hcj : c < j := by omega
        rw [← hcd]
        have p1 := hpm c (by omega)
        have p2 := hpb c (by omega)
        simp only [sub_i (show c ≤ mid + m - 1 by omega) (show mid + m - 1 < 9223372036854775808 by omega), lay_idx (show c < N by omega), lay_idx (show mid + m - 1 - c < N by omega), ld c (by omega), ld (mid + m - 1 - c) (by omega)]
        refine hc M _ _ _ fun n hn => ?_
        simp only [lss0, vUn]
        by_cases hn0 : n < 0
        · simp only [hn0, decide_true, Bool.not_true]
          have hl0 := hn.1 hn0
          refine hK (i, c) _ _ rfl ⟨rfl, k1, hci, by show c ≤ hi; omega, k4, fun k g1 g2 => ?_⟩ (by show c - i < j - i; omega)
          simp only at g1
          have p3 := hpm k g2
          cases e : lt (M.getD (mid + m - 1 - k) z) (M.getD k z) with
          | true => rfl
          | false =>
            have := hO.le3 (t1.le hO (i := c) (j := k) (by omega) (by omega) (by omega)) e (t2.le hO (i := mid + m - 1 - k) (j := mid + m - 1 - c) p3 (by omega) (by omega))
            rw [hl0] at this; cases this
        · simp only [hn0, decide_false, Bool.not_false, add_i (show c + 1 < 9223372036854775808 by omega)]
          have hl0 : lt (M.getD (mid + m - 1 - c) z) (M.getD c z) = false := by
            cases e : lt (M.getD (mid + m - 1 - c) z) (M.getD c z) with
            | false => rfl
            | true => exact absurd (hn.2 e) hn0
          refine hK (c + 1, j) _ _ rfl ⟨rfl, by show lo ≤ c + 1; omega, by show c + 1 ≤ j; omega, k3, fun k g1 g2 => ?_, k5⟩ (by show j - (c + 1) < j - i; omega)
          simp only at g2
          have p4 := hpb k g1
          exact hO.le3 (t1.le hO (i := k) (j := c) (by omega) (by omega) (by omega)) hl0 (t2.le hO (i := mid + m - 1 - c) (j := mid + m - 1 - k) (by omega) (by omega) p4)
      · simp only [hij, decide_false]
        obtain rfl : i = j := by omega
        have hcut : Cut lt (fun k => M.getD k z) a m b mid i := ⟨by omega, by omega, by omega, by omega, fun c c1 c2 c3 => by
            have := k4 c (by omega) c3
            rwa [show mid + m - 1 - c = m + mid - 1 - c by omega] at this, fun c c1 c2 c3 => by
            have := k5 c c1 (by omega)
            rwa [show mid + m - 1 - c = m + mid - 1 - c by omega] at this⟩
        have hcr := cut_cross hO t1 t2 hcut (by omega) (by omega) (by omega) (by omega)
        have r1 := rot_so1 (b := b) (mid := mid) t1 hcut.hm
        have r2 := rot_so2 (a := a) t2 hcut.hm hcut.hd hcut.e1
        have r3 := rot_so3 (b := b) t1 hcut.lo hcut.hm hcut.hd
        have r4 := rot_so4 (a := a) t2 hcut.hm hcut.hd
        have q1 := hcut.lo
        have q2 := hcut.hm
        have q3 := hcut.hd
        have q4 := hcut.e1
        obtain ⟨e, hed⟩ : ∃ e, e = m + mid - i := ⟨_, rfl⟩
        rw [← hed] at hcr r1 r2 r3 r4
        simp only [sub_i (show i ≤ mid + m by omega) (show mid + m < 9223372036854775808 by omega)]
        rw [show mid + m - i = e by omega]
        refine Join.of (fun xs t => ∃ M1, t = Lay enc rest s q M1 ∧ Kept z M M1 a b ∧ ∀ x, M1.getD x z = rotF (fun k => M.getD k z) i m e x) ?_ ?_
        rotate_left
        · intro K1 hK1
          refine Join.of (fun xs t => t = Lay enc rest s q M ∧ xs = [.lit (.bool (decide (i < m ∧ m < e)))]) ?_ ?_
          rotate_left
          · intro K2 hK2
            simp only [lss_i]
            by_cases g1 : i < m
            · simp only [g1, decide_true]
              refine hK2 _ _ ⟨rfl, by simp [g1]⟩
            · simp only [g1, decide_false]
              refine hK2 _ _ ⟨rfl, by simp [g1]⟩
          rintro _ t ⟨rfl, rfl⟩
          simp only [List.headD_cons]
          by_cases g : i < m ∧ m < e
          · simp only [g, and_self, decide_true]
            refine hr M i m e _ hN g.1 g.2 (by omega) fun M' g1 g2 => ?_
            exact hK1 _ _ ⟨M', rfl, g1.wide (by omega) (by omega), g2⟩
          · simp only [g, decide_false]
            refine hK1 _ _ ⟨M, rfl, Kept.refl _ _ _, fun x => ?_⟩
            by_cases g1 : i < m
            · obtain rfl : e = m := by omega
              rw [rot_idR]
            · obtain rfl : i = m := by omega
              rw [rot_idL]
        rintro _ t ⟨M1, rfl, kp1, hM1⟩
        have hlen1 := kp1.len
        have hf1 : (fun k => M1.getD k z) = rotF (fun k => M.getD k z) i m e := funext hM1
        rw [← hf1] at hcr r1 r2 r3 r4
        refine Join.of (fun xs t => ∃ M2, t = Lay enc rest s q M2 ∧ Kept z M1 M2 a mid ∧ SO z lt M2 a mid) ?_ ?_
        rotate_left
        · intro K1 hK1
          refine Join.of (fun xs t => t = Lay enc rest s q M1 ∧ xs = [.lit (.bool (decide (a < i ∧ i < mid)))]) ?_ ?_
          rotate_left
          · intro K2 hK2
            try simp only [lss_i]
            by_cases g1 : a < i
            · simp only [g1, decide_true]
              refine hK2 _ _ ⟨rfl, by simp [g1]⟩
            · simp only [g1, decide_false]
              refine hK2 _ _ ⟨rfl, by simp [g1]⟩
          rintro _ t ⟨rfl, rfl⟩
          simp only [List.headD_cons]
          by_cases g : a < i ∧ i < mid
          · simp only [g, and_self, decide_true]
            refine ih M1 a i mid _ (by omega) (by omega) g.1 g.2 (by omega) r1 r2 fun M' g1 g2 => ?_
            exact hK1 _ _ ⟨M', rfl, g1, g2⟩
          · simp only [g, decide_false]
            refine hK1 _ _ ⟨M1, rfl, Kept.refl _ _ _, ?_⟩
            by_cases g1 : a < i
            · obtain rfl : i = mid := by omega
              exact r1
            · obtain rfl : i = a := by omega
              exact r2
        rintro _ t ⟨M2, rfl, kp2, hs2⟩
        have hlen2 := kp2.len
        have hcr2 := hcr.left kp2
        have r3' : SO z lt M2 mid e := SO.of_out (M := M1) r3 kp2 (.inr (Nat.le_refl _))
        have r4' : SO z lt M2 e b := SO.of_out (M := M1) r4 kp2 (.inr (by omega))
        have hfin : ∀ M3, Kept z M2 M3 mid b → SO z lt M3 mid b → Q (.tup []) (Lay enc rest s q M3) := fun M3 kp3 hs3 => by
          refine hQ M3 ((kp1.trans (kp2.wide (Nat.le_refl _) (by omega))).trans (kp3.wide (by omega) (Nat.le_refl _))) ?_
          exact so_join (m := mid) (SO.of_out hs2 kp3 (.inl (Nat.le_refl _))) hs3 (hcr2.right kp3)
        refine Join.of (fun xs t => t = Lay enc rest s q M2 ∧ xs = [.lit (.bool (decide (mid < e ∧ e < b)))]) ?_ ?_
        rotate_left
        · intro K2 hK2
          try simp only [lss_i]
          by_cases g1 : mid < e
          · simp only [g1, decide_true]
            refine hK2 _ _ ⟨rfl, by simp [g1]⟩
          · simp only [g1, decide_false]
            refine hK2 _ _ ⟨rfl, by simp [g1]⟩
        rintro _ t ⟨rfl, rfl⟩
        simp only [List.headD_cons]
        by_cases g : mid < e ∧ e < b
        · simp only [g, and_self, decide_true]
          exact ih M2 mid e b _ (by omega) (by omega) g.1 g.2 (by omega) r3' r4' hfin
        · simp only [g, decide_false]
          refine hfin M2 (Kept.refl _ _ _) ?_
          by_cases g1 : mid < e
          · obtain rfl : e = b := by omega
            exact r3'
          · obtain rfl : e = mid := by omega
            exact r4'
end
end Go.Proofs.YtkcgokkgefgcjaaDoor.H
end
section
namespace Go.Proofs.YtkcgokkgefgcjaaDoor.H
open Go.RowKit Go.MapKept
set_option linter.unusedVariables false
set_option linter.unusedSimpArgs false
section
variable {P : Program} {α : Type} {enc : α → List HV} {sz : Nat} {z : α} {rest : List HV} {s : HS} {q : Nat} {lt : α → α → Bool} {N : Nat} {f : Bool} {cmp : HV}
def InsOk (P : Program) (gi : Nat) (enc : α → List HV) (sz : Nat) (z : α) (lt : α → α → Bool) (rest : List HV) (s : HS) (q N : Nat) (f : Bool) (cmp : HV) : Prop :=
  ∀ (M : List α) (a b : Nat) (Q : HV → HS → Prop), M.length = N → a ≤ b → b ≤ N → (∀ M', Kept z M M' a b → SO z lt M' a b → Q (.tup []) (Lay enc rest s q M')) →
    HC P gi [.view q 0 sz N f, .lit (.int .i64 (a : Int)), .lit (.int .i64 (b : Int)), cmp] (Lay enc rest s q M) Q
def Blocks (z : α) (lt : α → α → Bool) (M : List α) (c n : Nat) : Prop := ∀ j, SO z lt M (j * c) (min (j * c + c) n)
theorem stb_ok {gi gs : Nat} (hi : InsOk P gi enc sz z lt rest s q N f cmp) (hs : ∀ d, SymOk P gs enc sz z lt rest s q N f cmp d) {M : List α} {Q : HV → HS → Prop} (hN : M.length = N) (hl : N < 1099511627776)
    (hQ : ∀ M', M'.Perm M → SO z lt M' 0 N → Q (.tup []) (Lay enc rest s q M')) :
    stbT P sz gi gs (.view q 0 sz N f) (.lit (.int .i64 (N : Int))) cmp (Lay enc rest s q M) Q := by
  unfold stbT
  rw [wlit0, show HV.lit (.int .i64 20) = .lit (.int .i64 ((20 : Nat) : Int)) from rfl, show HV.lit (.int .i64 2) = .lit (.int .i64 ((2 : Nat) : Int)) from rfl]
  refine HLoop.ghost (σ := Nat × List α) (fun g => [.lit (.int .i64 ((g.1 * 20 : Nat) : Int)), .lit (.int .i64 ((g.1 * 20 + 20 : Nat) : Int))]) (fun g t => g.1 * 20 ≤ N ∧ Kept z M g.2 0 N ∧ (∀ j, j < g.1 → SO z lt g.2 (j * 20) (j * 20 + 20)) ∧ t = Lay enc rest s q g.2) (fun g => N - g.1 * 20) (0, M) rfl
    ⟨by show 0 * 20 ≤ N; omega, Kept.refl _ _ _, fun j hj => by simp only at hj; omega, rfl⟩ ?_
  rintro ⟨k, M1⟩ t K ⟨k1, k2, k3, rfl⟩ hK
  simp only at k1 k2 k3
  have hlen := k2.len
  simp only [List.headD_cons, List.tail_cons, leq_i, bindO]
  by_cases hb : k * 20 + 20 ≤ N
  · simp only [hb, decide_true, hcond]
    refine hi M1 (k * 20) (k * 20 + 20) _ (by omega) (by omega) hb fun M' e1 e2 => ?_
    rw [add_i (show k * 20 + 20 + 20 < 9223372036854775808 by omega)]
    refine hK (k + 1, M') _ _ (by show _ = [HV.lit (.int .i64 (((k + 1) * 20 : Nat) : Int)), HV.lit (.int .i64 (((k + 1) * 20 + 20 : Nat) : Int))]; rw [Nat.succ_mul]) ⟨by show (k + 1) * 20 ≤ N; omega, k2.trans (e1.wide (Nat.zero_le _) hb), fun j hj => ?_, rfl⟩ (by show N - (k + 1) * 20 < N - k * 20; omega)
    simp only at hj ⊢
    by_cases hjk : j = k
    · subst hjk; exact e2
    · exact SO.of_out (k3 j (by omega)) e1 (.inl (by omega))
  · simp only [hb, decide_false, hcond]
    refine hi M1 (k * 20) N _ (by omega) k1 (Nat.le_refl _) fun M' e1 e2 => ?_
    have hB : Blocks z lt M' 20 N := fun j => by
      by_cases hj : j < k
      · rw [Nat.min_eq_left (by omega)]
        exact SO.of_out (k3 j hj) e1 (.inl (by omega))
      · by_cases hjk : j = k
        · subst hjk
          rw [Nat.min_eq_right (by omega)]
          exact e2
        · intro a b g1 g2 g3
          omega
    have kp0 := k2.trans (e1.wide (Nat.zero_le _) (Nat.le_refl _))
    clear e1 e2 k2 k3 k1 hb
    refine HLoop.ghost (σ := Nat × List α) (fun g => [.lit (.int .i64 (g.1 : Int))]) (fun g t => 0 < g.1 ∧ (g.1 = 20 ∨ g.1 < 2 * N) ∧ Kept z M g.2 0 N ∧ Blocks z lt g.2 g.1 N ∧ t = Lay enc rest s q g.2) (fun g => N - g.1) (20, M') rfl ⟨by show 0 < 20; omega, .inl rfl, kp0, hB, rfl⟩ ?_
    rintro ⟨c, M2⟩ t K2 ⟨c1, c2, c3, c4, rfl⟩ hK2
    simp only at c1 c2 c3 c4
    simp only [List.headD_cons, List.tail_cons, lss_i]
    by_cases hc : c < N
    · simp only [hc, decide_true, mul_i (show 2 * c < 9223372036854775808 by omega)]
      obtain ⟨d, hd⟩ : ∃ d, d = 2 * c := ⟨_, rfl⟩
      rw [← hd]
      refine HLoop.ghost (σ := Nat × List α) (fun g => [.lit (.int .i64 ((g.1 * d : Nat) : Int)), .lit (.int .i64 ((g.1 * d + d : Nat) : Int))]) (fun g t => g.1 * d ≤ N ∧ Kept z M g.2 0 N ∧ (∀ j, j < g.1 → SO z lt g.2 (j * d) (j * d + d)) ∧ (∀ j, 2 * g.1 ≤ j → SO z lt g.2 (j * c) (min (j * c + c) N)) ∧ t = Lay enc rest s q g.2) (fun g => N - g.1 * d) (0, M2)
        (by show _ = [HV.lit (.int .i64 ((0 * d : Nat) : Int)), HV.lit (.int .i64 ((0 * d + d : Nat) : Int))]; rw [Nat.zero_mul, Nat.zero_add])
        ⟨by show 0 * d ≤ N; rw [Nat.zero_mul]; omega, c3, fun j hj => by simp only at hj; omega, fun j _ => c4 j, rfl⟩ ?_
      rintro ⟨k, M3⟩ t K3 ⟨k1, k2, k3, k4, rfl⟩ hK3
      simp only at k1 k2 k3 k4
      have hlen3 := k2.len
      have e1 : 2 * k * c = k * d := by rw [hd, Nat.mul_comm 2 k, Nat.mul_assoc]
      have e2 : (2 * k + 1) * c = k * d + c := by rw [Nat.succ_mul, e1]
      have r1 := k4 (2 * k) (Nat.le_refl _)
      have r2 := k4 (2 * k + 1) (by omega)
      rw [e1] at r1
      rw [e2] at r2
      have hlow : ∀ j, j < k → j * d + d ≤ k * d := fun j hj => by
        have := Nat.mul_le_mul_right d (show j + 1 ≤ k from hj)
        rwa [Nat.succ_mul] at this
      have hup : ∀ j, 2 * (k + 1) ≤ j → k * d + d ≤ j * c := fun j hj => by
        have := Nat.mul_le_mul_right c hj
        rw [show 2 * (k + 1) * c = k * d + d by rw [Nat.mul_add, Nat.add_mul, e1]; omega] at this
        exact this
      have hkd2 : (k + 1) * d = k * d + d := Nat.succ_mul k d
      generalize hA : k * d = a at *
      simp only [List.headD_cons, List.tail_cons, leq_i]
      by_cases hb : a + d ≤ N
      · simp only [hb, decide_true, add_i (show a + c < 9223372036854775808 by omega)]
        rw [Nat.min_eq_left (by omega)] at r1 r2
        refine hs _ M3 a (a + c) (a + d) _ (Nat.lt_succ_self _) (by omega) (by omega) (by omega) hb r1 (by rw [show a + d = a + c + c by omega]; exact r2) fun M4 e3 e4 => ?_
        rw [add_i (show a + d + d < 9223372036854775808 by omega)]
        refine hK3 (k + 1, M4) _ _ (by show _ = [HV.lit (.int .i64 (((k + 1) * d : Nat) : Int)), HV.lit (.int .i64 (((k + 1) * d + d : Nat) : Int))]; rw [hkd2]) ⟨by show (k + 1) * d ≤ N; omega, k2.trans (e3.wide (Nat.zero_le _) hb), fun j hj => ?_, fun j hj => ?_, rfl⟩ (by show N - (k + 1) * d < N - a; omega)
        · simp only at hj ⊢
          by_cases hjk : j = k
          · subst hjk; rw [hA]; exact e4
          · exact SO.of_out (k3 j (by omega)) e3 (.inl (hlow j (by omega)))
        · simp only at hj ⊢
          exact SO.of_out (k4 j (by omega)) e3 (.inr (hup j hj))
      · simp only [hb, decide_false]
        have hfin : ∀ M4, Kept z M3 M4 a N → SO z lt M4 a N → K2 [HV.lit (.int .i64 ((2 * c : Nat) : Int))] (Lay enc rest s q M4) := fun M4 e3 e4 => by
          refine hK2 (2 * c, M4) _ _ rfl ⟨by show 0 < 2 * c; omega, .inr (by show 2 * c < 2 * N; omega), k2.trans (e3.wide (Nat.zero_le _) (Nat.le_refl _)), fun j => ?_, rfl⟩ (by show N - 2 * c < N - c; omega)
          rw [← hd]
          show SO z lt M4 (j * d) (min (j * d + d) N)
          by_cases hj : j < k
          · have := hlow j hj
            rw [Nat.min_eq_left (by omega)]
            exact SO.of_out (k3 j hj) e3 (.inl this)
          · by_cases hjk : j = k
            · subst hjk
              rw [hA, Nat.min_eq_right (by omega)]
              exact e4
            · have := Nat.mul_le_mul_right d (show k + 1 ≤ j by omega)
              intro x y g1 g2 g3
              omega
        refine Join.of (fun xs t => ∃ M4, t = Lay enc rest s q M4 ∧ Kept z M3 M4 a N ∧ SO z lt M4 a N) ?_ ?_
        · rintro _ t ⟨M4, rfl, e3, e4⟩
          rw [mul_i (show c * 2 < 9223372036854775808 by omega), Nat.mul_comm c 2]
          exact hfin M4 e3 e4
        · intro K4 hK4
          simp only [add_i (show a + c < 9223372036854775808 by omega), lss_i]
          by_cases hm : a + c < N
          · simp only [hm, decide_true]
            rw [Nat.min_eq_left (by omega)] at r1
            rw [Nat.min_eq_right (by omega)] at r2
            exact hs _ M3 a (a + c) N _ (Nat.lt_succ_self _) (by omega) (by omega) hm (Nat.le_refl _) r1 r2 fun M4 e3 e4 => hK4 _ _ ⟨M4, rfl, e3, e4⟩
          · simp only [hm, decide_false]
            rw [Nat.min_eq_right (by omega)] at r1
            exact hK4 _ _ ⟨M3, rfl, Kept.refl _ _ _, r1⟩
    · simp only [hc, decide_false]
      have := c4 0
      rw [Nat.zero_mul, Nat.min_eq_right (by omega)] at this
      exact hQ M2 c3.perm this
end
end Go.Proofs.YtkcgokkgefgcjaaDoor.H
end
