/- What the proof of the law GroupPlays needs, cut out of the session's own texts by a program (slim.py): part 3. -/
import Derived.Test.YtkcgokkgefgcjaaGreatDoorQGroupPlaysb
section
namespace Go.Proofs.YtkcgokkgefgcjaaGreatDoor.G0
open Go.Proofs.YtkcgokkgefgcjaaGreatDoor.H
set_option linter.unusedVariables false
set_option maxRecDepth 100000
/-- cordwain/group.New -/
def c6 (a0 a1 a2 a3 : HV) (s : HS) (Q : HV → HS → Prop) : Prop :=
  Join (fun K1 => bindO (vBin .lss a0 (.lit (.int .i64 1))) fun x4 => hcond x4 (K1 [(.lit (.bool true))] s) (bindO (vBin .gtr a0 (.lit (.int .i64 1000000))) fun x5 => hcond x5 (K1 [(.lit (.bool true))] s) (bindO (vBin .lss a1 (.lit (.int .i64 1))) fun x6 => hcond x6 (K1 [(.lit (.bool true))] s) (bindO (vBin .gtr a1 (.lit (.int .i64 1000000))) fun x7 => hcond x7 (K1 [(.lit (.bool true))] s) (bindO (vBin .lss a2 (.lit (.int .i64 0))) fun x8 => hcond x8 (K1 [(.lit (.bool true))] s) (bindO (vBin .gtr a2 (.lit (.int .i64 1099511627776))) fun x9 => K1 [x9] s)))))) (fun y2 s3 => hcond (y2.headD .junk) (Q (.tup [(.lit (.pointer none)), (.lit (.int .i64 1))]) s3) (bindO (vMk [(0, 1), (1, 1), (2, 1), (3, 1), (4, 1), (5, 1), (6, 1), (7, 1), (8, 1), (9, 1), (10, 1)] [.lit (.int .i64 0), .lit (.int .i64 0), .lit (.bool false), .lit (.int .i64 0), .lit (.int .i64 0), .lit (.int .i64 0), .lit (.int .i64 0), .lit (.int .i64 0), .lit (.slice none 0 0), .lit (.slice none 0 0), .lit (.slice none 0 0)] [(0, a0), (1, a1), (2, a3), (3, (.lit (.int .i64 1))), (4, a2)]) fun x10 => hBox s3 x10 (fun x11 s12 => Q (.tup [x11, (.lit (.int .i64 0))]) s12)))
theorem c6_eq (a0 a1 a2 a3 : HV) (s : HS) (Q : HV → HS → Prop) : (match Tryz.f6.body with | some c => hwp Tryz.prog (fun p => if p = 6 then some [31] else none) false 1 c (hretQ Tryz.prog Tryz.f6.results.toList Q) (([a0, a1, a2, a3] : List HV) ++ List.replicate (Tryz.f6.ntmps - 4) (.lit undef)) s | none => False) = c6 a0 a1 a2 a3 s Q := by kernel_rfl
theorem HC6 {a0 a1 a2 a3 : HV} {s : HS} {Q : HV → HS → Prop} (h : c6 a0 a1 a2 a3 s Q) : HC Tryz.prog 6 [a0, a1, a2, a3] s Q := HC_by Tryz.func6 (by have := c6_eq a0 a1 a2 a3 s Q; exact this.mpr h)
/-- slices.Clone[[]cordwain/assign.Topic,cordwain/assign.Topic] -/
def c58 (a0 : HV) (s : HS) (Q : HV → HS → Prop) : Prop :=
  bindO (vCmp (Tryz.prog.underlying 40) .eql a0 (.lit (.slice none 0 0))) fun x1 => hcond x1 (Q (.lit (.slice none 0 0)) s) (hBS s 2 0 [] [] (fun x2 s3 => hAppend s3 2 24 x2 a0 (fun x4 s5 => Q x4 s5)))
theorem c58_eq (a0 : HV) (s : HS) (Q : HV → HS → Prop) : (match Tryz.f58.body with | some c => hwp Tryz.prog (fun p => none) false 1 c (hretQ Tryz.prog Tryz.f58.results.toList Q) (([a0] : List HV) ++ List.replicate (Tryz.f58.ntmps - 1) (.lit undef)) s | none => False) = c58 a0 s Q := by kernel_rfl
theorem HC58 {a0 : HV} {s : HS} {Q : HV → HS → Prop} (h : c58 a0 s Q) : HC Tryz.prog 58 [a0] s Q := HC_by Tryz.func58 (by have := c58_eq a0 s Q; exact this.mpr h)
/-- (*cordwain/group.Group).enter -/
def c44 (a0 a1 : HV) (s : HS) (Q : HV → HS → Prop) : Prop :=
  bindO (vNil a0) fun x1 => bindO (vField 6 x1) fun x2 => bindO (vLoad s x2 1 false) fun x3 => bindO (vNil a0) fun x4 => bindO (vField 3 x4) fun x5 => hStore s x5 a1 1 (fun s6 => bindO (vNil a0) fun x7 => bindO (vField 7 x7) fun x8 => hStore s6 x8 x3 1 (fun s9 => Q (.tup []) s9))
theorem c44_eq (a0 a1 : HV) (s : HS) (Q : HV → HS → Prop) : (match Tryz.f44.body with | some c => hwp Tryz.prog (fun p => none) false 1 c (hretQ Tryz.prog Tryz.f44.results.toList Q) (([a0, a1] : List HV) ++ List.replicate (Tryz.f44.ntmps - 2) (.lit undef)) s | none => False) = c44 a0 a1 s Q := by kernel_rfl
theorem HC44 {a0 a1 : HV} {s : HS} {Q : HV → HS → Prop} (h : c44 a0 a1 s Q) : HC Tryz.prog 44 [a0, a1] s Q := HC_by Tryz.func44 (by have := c44_eq a0 a1 s Q; exact this.mpr h)
/-- (*cordwain/group.Group).prepares -/
def c39 (a0 : HV) (s : HS) (Q : HV → HS → Prop) : Prop :=
  bindO (vNil a0) fun x1 => bindO (vField 9 x1) fun x2 => bindO (vLoad s x2 1 false) fun x3 => bindO (vLenT (Tryz.prog.underlying 51) s x3) fun x4 => bindO (vCmp (Tryz.prog.underlying 3) .eql x4 (.lit (.int .i64 0))) fun x5 => hcond x5 (HC Tryz.prog 44 [a0, (.lit (.int .i64 1))] s (fun r6 s7 => Q (.tup []) s7)) (HC Tryz.prog 44 [a0, (.lit (.int .i64 2))] s (fun r8 s9 => bindO (vNil a0) fun x10 => bindO (vField 9 x10) fun x11 => bindO (vLoad s9 x11 1 false) fun x12 => bindO (vLenT (Tryz.prog.underlying 51) s9 x12) fun x13 => HLoop (fun y15 s16 K14 => bindO (vBin .lss (y15.headD .junk) x13) fun x17 => hcond x17 (bindO (vIdx 1 x12 (y15.headD .junk)) fun x18 => bindO (vLoad s16 x18 1 false) fun x19 => bindO (vNil x19) fun x20 => bindO (vField 3 x20) fun x21 => hStore s16 x21 (.lit (.bool false)) 1 (fun s22 => bindO (vBin .add (y15.headD .junk) (.lit (.int .i64 1))) fun x23 => K14 [x23] s22)) (Q (.tup []) s16)) [(.lit (.int .i64 0))] s9))
theorem c39_eq (a0 : HV) (s : HS) (Q : HV → HS → Prop) : (match Tryz.f39.body with | some c => hwp Tryz.prog (fun p => if p = 30 then some [19] else none) false 1 c (hretQ Tryz.prog Tryz.f39.results.toList Q) (([a0] : List HV) ++ List.replicate (Tryz.f39.ntmps - 1) (.lit undef)) s | none => False) = c39 a0 s Q := by kernel_rfl
theorem HC39 {a0 : HV} {s : HS} {Q : HV → HS → Prop} (h : c39 a0 s Q) : HC Tryz.prog 39 [a0] s Q := HC_by Tryz.func39 (by have := c39_eq a0 s Q; exact this.mpr h)
/-- slices.IndexFunc[[]*cordwain/group.member,*cordwain/group.member] -/
def c62 (a0 a1 : HV) (s : HS) (Q : HV → HS → Prop) : Prop :=
  bindO (vLenT (Tryz.prog.underlying 51) s a0) fun x1 => HLoop (fun y3 s4 K2 => bindO (vBin .lss (y3.headD .junk) x1) fun x5 => hcond x5 (bindO (vIdx 1 a0 (y3.headD .junk)) fun x6 => bindO (vLoad s4 x6 1 false) fun x7 => hcall Tryz.prog a1 [x7] s4 (fun r8 s9 => hcond r8 (Q (y3.headD .junk) s9) (bindO (vBin .add (y3.headD .junk) (.lit (.int .i64 1))) fun x10 => K2 [x10] s9))) (Q (.lit (.int .i64 (-1))) s4)) [(.lit (.int .i64 0))] s
theorem c62_eq (a0 a1 : HV) (s : HS) (Q : HV → HS → Prop) : (match Tryz.f62.body with | some c => hwp Tryz.prog (fun p => if p = 26 then some [8] else none) false 1 c (hretQ Tryz.prog Tryz.f62.results.toList Q) (([a0, a1] : List HV) ++ List.replicate (Tryz.f62.ntmps - 2) (.lit undef)) s | none => False) = c62 a0 a1 s Q := by kernel_rfl
theorem HC62 {a0 a1 : HV} {s : HS} {Q : HV → HS → Prop} (h : c62 a0 a1 s Q) : HC Tryz.prog 62 [a0, a1] s Q := HC_by Tryz.func62 (by have := c62_eq a0 a1 s Q; exact this.mpr h)
/-- (*cordwain/group.Group).find$1 -/
def c63 (a0 a1 : HV) (s : HS) (Q : HV → HS → Prop) : Prop :=
  bindO (vNil a0) fun x1 => bindO (vField 0 x1) fun x2 => bindO (vLoad s x2 1 false) fun x3 => bindO (vLoad s a1 1 false) fun x4 => bindO (vCmp (Tryz.prog.underlying 9) .eql x3 x4) fun x5 => Q x5 s
theorem c63_eq (a0 a1 : HV) (s : HS) (Q : HV → HS → Prop) : (match Tryz.f63.body with | some c => hwp Tryz.prog (fun p => none) false 1 c (hretQ Tryz.prog Tryz.f63.results.toList Q) (([a0, a1] : List HV) ++ List.replicate (Tryz.f63.ntmps - 2) (.lit undef)) s | none => False) = c63 a0 a1 s Q := by kernel_rfl
theorem HC63 {a0 a1 : HV} {s : HS} {Q : HV → HS → Prop} (h : c63 a0 a1 s Q) : HC Tryz.prog 63 [a0, a1] s Q := HC_by Tryz.func63 (by have := c63_eq a0 a1 s Q; exact this.mpr h)
/-- (*cordwain/group.Group).find -/
def c35 (a0 a1 : HV) (s : HS) (Q : HV → HS → Prop) : Prop :=
  hBox s a1 (fun x1 s2 => bindO (vNil a0) fun x3 => bindO (vField 9 x3) fun x4 => bindO (vLoad s2 x4 1 false) fun x5 => HC Tryz.prog 62 [x5, (.func (.func 63) [x1])] s2 (fun r6 s7 => bindO (vBin .lss r6 (.lit (.int .i64 0))) fun x8 => hcond x8 (Q (.lit (.pointer none)) s7) (bindO (vNil a0) fun x9 => bindO (vField 9 x9) fun x10 => bindO (vLoad s7 x10 1 false) fun x11 => bindO (vIdx 1 x11 r6) fun x12 => bindO (vLoad s7 x12 1 false) fun x13 => Q x13 s7)))
theorem c35_eq (a0 a1 : HV) (s : HS) (Q : HV → HS → Prop) : (match Tryz.f35.body with | some c => hwp Tryz.prog (fun p => none) false 1 c (hretQ Tryz.prog Tryz.f35.results.toList Q) (([a0, a1] : List HV) ++ List.replicate (Tryz.f35.ntmps - 2) (.lit undef)) s | none => False) = c35 a0 a1 s Q := by kernel_rfl
theorem HC35 {a0 a1 : HV} {s : HS} {Q : HV → HS → Prop} (h : c35 a0 a1 s Q) : HC Tryz.prog 35 [a0, a1] s Q := HC_by Tryz.func35 (by have := c35_eq a0 a1 s Q; exact this.mpr h)
/-- slices.ContainsFunc[[]*cordwain/group.member,*cordwain/group.member] -/
def c70 (a0 a1 : HV) (s : HS) (Q : HV → HS → Prop) : Prop :=
  HC Tryz.prog 62 [a0, a1] s (fun r1 s2 => bindO (vBin .geq r1 (.lit (.int .i64 0))) fun x3 => Q x3 s2)
theorem c70_eq (a0 a1 : HV) (s : HS) (Q : HV → HS → Prop) : (match Tryz.f70.body with | some c => hwp Tryz.prog (fun p => none) false 1 c (hretQ Tryz.prog Tryz.f70.results.toList Q) (([a0, a1] : List HV) ++ List.replicate (Tryz.f70.ntmps - 2) (.lit undef)) s | none => False) = c70 a0 a1 s Q := by kernel_rfl
theorem HC70 {a0 a1 : HV} {s : HS} {Q : HV → HS → Prop} (h : c70 a0 a1 s Q) : HC Tryz.prog 70 [a0, a1] s Q := HC_by Tryz.func70 (by have := c70_eq a0 a1 s Q; exact this.mpr h)
/-- (*cordwain/group.Group).each$1 -/
def c71 (a0 a1 : HV) (s : HS) (Q : HV → HS → Prop) : Prop :=
  bindO (vLoad s a1 1 false) fun x1 => hcall Tryz.prog x1 [a0] s (fun r2 s3 => bindO (vUn .not r2) fun x4 => Q x4 s3)
theorem c71_eq (a0 a1 : HV) (s : HS) (Q : HV → HS → Prop) : (match Tryz.f71.body with | some c => hwp Tryz.prog (fun p => none) false 1 c (hretQ Tryz.prog Tryz.f71.results.toList Q) (([a0, a1] : List HV) ++ List.replicate (Tryz.f71.ntmps - 2) (.lit undef)) s | none => False) = c71 a0 a1 s Q := by kernel_rfl
theorem HC71 {a0 a1 : HV} {s : HS} {Q : HV → HS → Prop} (h : c71 a0 a1 s Q) : HC Tryz.prog 71 [a0, a1] s Q := HC_by Tryz.func71 (by have := c71_eq a0 a1 s Q; exact this.mpr h)
/-- (*cordwain/group.Group).each -/
def c42 (a0 a1 : HV) (s : HS) (Q : HV → HS → Prop) : Prop :=
  hBox s a1 (fun x1 s2 => bindO (vNil a0) fun x3 => bindO (vField 9 x3) fun x4 => bindO (vLoad s2 x4 1 false) fun x5 => HC Tryz.prog 70 [x5, (.func (.func 71) [x1])] s2 (fun r6 s7 => bindO (vUn .not r6) fun x8 => Q x8 s7))
theorem c42_eq (a0 a1 : HV) (s : HS) (Q : HV → HS → Prop) : (match Tryz.f42.body with | some c => hwp Tryz.prog (fun p => none) false 1 c (hretQ Tryz.prog Tryz.f42.results.toList Q) (([a0, a1] : List HV) ++ List.replicate (Tryz.f42.ntmps - 2) (.lit undef)) s | none => False) = c42 a0 a1 s Q := by kernel_rfl
theorem HC42 {a0 a1 : HV} {s : HS} {Q : HV → HS → Prop} (h : c42 a0 a1 s Q) : HC Tryz.prog 42 [a0, a1] s Q := HC_by Tryz.func42 (by have := c42_eq a0 a1 s Q; exact this.mpr h)
/-- slices.DeleteFunc[[]*cordwain/group.member,*cordwain/group.member] -/
def c76 (a0 a1 : HV) (s : HS) (Q : HV → HS → Prop) : Prop :=
  HC Tryz.prog 62 [a0, a1] s (fun r1 s2 => bindO (vCmp (Tryz.prog.underlying 3) .eql r1 (.lit (.int .i64 (-1)))) fun x3 => hcond x3 (Q a0 s2) (bindO (vBin .add r1 (.lit (.int .i64 1))) fun x4 => HLoop (fun y6 s7 K5 => bindO (vLenT (Tryz.prog.underlying 51) s7 a0) fun x8 => bindO (vBin .lss (y6.tail.headD .junk) x8) fun x9 => hcond x9 (Join (fun K10 => bindO (vIdx 1 a0 (y6.tail.headD .junk)) fun x13 => bindO (vLoad s7 x13 1 false) fun x14 => hcall Tryz.prog a1 [x14] s7 (fun r15 s16 => bindO (vUn .not r15) fun x17 => hcond x17 (bindO (vIdx 1 a0 (y6.headD .junk)) fun x18 => hStore s16 x18 x14 1 (fun s19 => bindO (vBin .add (y6.headD .junk) (.lit (.int .i64 1))) fun x20 => K10 [x20] s19)) (K10 [(y6.headD .junk)] s16))) (fun y11 s12 => bindO (vBin .add (y6.tail.headD .junk) (.lit (.int .i64 1))) fun x21 => K5 [(y11.headD .junk), x21] s12)) (bindO (vSlice 1 a0 (some (y6.headD .junk)) none none) fun x22 => hClear s7 1 (.pointer none) x22 (fun s23 => bindO (vSlice 1 a0 none (some (y6.headD .junk)) none) fun x24 => Q x24 s23))) [r1, x4] s2))
theorem c76_eq (a0 a1 : HV) (s : HS) (Q : HV → HS → Prop) : (match Tryz.f76.body with | some c => hwp Tryz.prog (fun p => if p = 122 then some [5, 6] else if p = 489 then some [5] else none) false 1 c (hretQ Tryz.prog Tryz.f76.results.toList Q) (([a0, a1] : List HV) ++ List.replicate (Tryz.f76.ntmps - 2) (.lit undef)) s | none => False) = c76 a0 a1 s Q := by kernel_rfl
theorem HC76 {a0 a1 : HV} {s : HS} {Q : HV → HS → Prop} (h : c76 a0 a1 s Q) : HC Tryz.prog 76 [a0, a1] s Q := HC_by Tryz.func76 (by have := c76_eq a0 a1 s Q; exact this.mpr h)
/-- (*cordwain/group.Group).outs -/
def c55 (a0 a1 : HV) (s : HS) (Q : HV → HS → Prop) : Prop :=
  bindO (vNil a0) fun x1 => bindO (vField 9 x1) fun x2 => bindO (vLoad s x2 1 false) fun x3 => bindO (vLenT (Tryz.prog.underlying 51) s x3) fun x4 => bindO (vNil a0) fun x5 => bindO (vField 9 x5) fun x6 => bindO (vLoad s x6 1 false) fun x7 => HC Tryz.prog 76 [x7, a1] s (fun r8 s9 => bindO (vNil a0) fun x10 => bindO (vField 9 x10) fun x11 => hStore s9 x11 r8 1 (fun s12 => bindO (vNil a0) fun x13 => bindO (vField 9 x13) fun x14 => bindO (vLoad s12 x14 1 false) fun x15 => bindO (vLenT (Tryz.prog.underlying 51) s12 x15) fun x16 => bindO (vBin .lss x16 x4) fun x17 => Q x17 s12))
theorem c55_eq (a0 a1 : HV) (s : HS) (Q : HV → HS → Prop) : (match Tryz.f55.body with | some c => hwp Tryz.prog (fun p => none) false 1 c (hretQ Tryz.prog Tryz.f55.results.toList Q) (([a0, a1] : List HV) ++ List.replicate (Tryz.f55.ntmps - 2) (.lit undef)) s | none => False) = c55 a0 a1 s Q := by kernel_rfl
theorem HC55 {a0 a1 : HV} {s : HS} {Q : HV → HS → Prop} (h : c55 a0 a1 s Q) : HC Tryz.prog 55 [a0, a1] s Q := HC_by Tryz.func55 (by have := c55_eq a0 a1 s Q; exact this.mpr h)
/-- (*cordwain/group.Group).over -/
def c66 (a0 : HV) (s : HS) (Q : HV → HS → Prop) : Prop :=
  bindO (vNil a0) fun x1 => bindO (vField 6 x1) fun x2 => bindO (vLoad s x2 1 false) fun x3 => bindO (vNil a0) fun x4 => bindO (vField 7 x4) fun x5 => bindO (vLoad s x5 1 false) fun x6 => bindO (vBin .sub x3 x6) fun x7 => bindO (vNil a0) fun x8 => bindO (vField 1 x8) fun x9 => bindO (vLoad s x9 1 false) fun x10 => bindO (vBin .geq x7 x10) fun x11 => Q x11 s
theorem c66_eq (a0 : HV) (s : HS) (Q : HV → HS → Prop) : (match Tryz.f66.body with | some c => hwp Tryz.prog (fun p => none) false 1 c (hretQ Tryz.prog Tryz.f66.results.toList Q) (([a0] : List HV) ++ List.replicate (Tryz.f66.ntmps - 1) (.lit undef)) s | none => False) = c66 a0 s Q := by kernel_rfl
theorem HC66 {a0 : HV} {s : HS} {Q : HV → HS → Prop} (h : c66 a0 s Q) : HC Tryz.prog 66 [a0] s Q := HC_by Tryz.func66 (by have := c66_eq a0 s Q; exact this.mpr h)
/-- (*cordwain/group.Group).forms$1 -/
def c65 (a0 : HV) (s : HS) (Q : HV → HS → Prop) : Prop :=
  bindO (vNil a0) fun x1 => bindO (vField 3 x1) fun x2 => bindO (vLoad s x2 1 false) fun x3 => Q x3 s
theorem c65_eq (a0 : HV) (s : HS) (Q : HV → HS → Prop) : (match Tryz.f65.body with | some c => hwp Tryz.prog (fun p => none) false 1 c (hretQ Tryz.prog Tryz.f65.results.toList Q) (([a0] : List HV) ++ List.replicate (Tryz.f65.ntmps - 1) (.lit undef)) s | none => False) = c65 a0 s Q := by kernel_rfl
theorem HC65 {a0 : HV} {s : HS} {Q : HV → HS → Prop} (h : c65 a0 s Q) : HC Tryz.prog 65 [a0] s Q := HC_by Tryz.func65 (by have := c65_eq a0 s Q; exact this.mpr h)
/-- (*cordwain/group.Group).forms$2 -/
def c67 (a0 : HV) (s : HS) (Q : HV → HS → Prop) : Prop :=
  bindO (vNil a0) fun x1 => bindO (vField 3 x1) fun x2 => bindO (vLoad s x2 1 false) fun x3 => bindO (vUn .not x3) fun x4 => Q x4 s
theorem c67_eq (a0 : HV) (s : HS) (Q : HV → HS → Prop) : (match Tryz.f67.body with | some c => hwp Tryz.prog (fun p => none) false 1 c (hretQ Tryz.prog Tryz.f67.results.toList Q) (([a0] : List HV) ++ List.replicate (Tryz.f67.ntmps - 1) (.lit undef)) s | none => False) = c67 a0 s Q := by kernel_rfl
theorem HC67 {a0 : HV} {s : HS} {Q : HV → HS → Prop} (h : c67 a0 s Q) : HC Tryz.prog 67 [a0] s Q := HC_by Tryz.func67 (by have := c67_eq a0 s Q; exact this.mpr h)
/-- slices.IndexFunc[[]cordwain/assign.Topic,cordwain/assign.Topic] -/
def c110 (a0 a1 : HV) (s : HS) (Q : HV → HS → Prop) : Prop :=
  bindO (vLenT (Tryz.prog.underlying 40) s a0) fun x1 => HLoop (fun y3 s4 K2 => bindO (vBin .lss (y3.headD .junk) x1) fun x5 => hcond x5 (bindO (vIdx 2 a0 (y3.headD .junk)) fun x6 => bindO (vLoad s4 x6 2 true) fun x7 => hcall Tryz.prog a1 [x7] s4 (fun r8 s9 => hcond r8 (Q (y3.headD .junk) s9) (bindO (vBin .add (y3.headD .junk) (.lit (.int .i64 1))) fun x10 => K2 [x10] s9))) (Q (.lit (.int .i64 (-1))) s4)) [(.lit (.int .i64 0))] s
theorem c110_eq (a0 a1 : HV) (s : HS) (Q : HV → HS → Prop) : (match Tryz.f110.body with | some c => hwp Tryz.prog (fun p => if p = 26 then some [8] else none) false 1 c (hretQ Tryz.prog Tryz.f110.results.toList Q) (([a0, a1] : List HV) ++ List.replicate (Tryz.f110.ntmps - 2) (.lit undef)) s | none => False) = c110 a0 a1 s Q := by kernel_rfl
theorem HC110 {a0 a1 : HV} {s : HS} {Q : HV → HS → Prop} (h : c110 a0 a1 s Q) : HC Tryz.prog 110 [a0, a1] s Q := HC_by Tryz.func110 (by have := c110_eq a0 a1 s Q; exact this.mpr h)
/-- cordwain/assign.open$1 -/
def c95 (a0 : HV) (s : HS) (Q : HV → HS → Prop) : Prop :=
  hBox s a0 (fun x1 s2 => bindO (vField 1 x1) fun x3 => bindO (vLoad s2 x3 1 false) fun x4 => bindO (vBin .lss x4 (.lit (.int .i64 0))) fun x5 => hcond x5 (Q (.lit (.bool true)) s2) (bindO (vField 1 x1) fun x6 => bindO (vLoad s2 x6 1 false) fun x7 => bindO (vBin .gtr x7 (.lit (.int .i64 1000))) fun x8 => Q x8 s2))
theorem c95_eq (a0 : HV) (s : HS) (Q : HV → HS → Prop) : (match Tryz.f95.body with | some c => hwp Tryz.prog (fun p => none) false 1 c (hretQ Tryz.prog Tryz.f95.results.toList Q) (([a0] : List HV) ++ List.replicate (Tryz.f95.ntmps - 1) (.lit undef)) s | none => False) = c95 a0 s Q := by kernel_rfl
theorem HC95 {a0 : HV} {s : HS} {Q : HV → HS → Prop} (h : c95 a0 s Q) : HC Tryz.prog 95 [a0] s Q := HC_by Tryz.func95 (by have := c95_eq a0 s Q; exact this.mpr h)
/-- slices.ContainsFunc[[]cordwain/assign.Topic,cordwain/assign.Topic] -/
def c94 (a0 a1 : HV) (s : HS) (Q : HV → HS → Prop) : Prop :=
  HC Tryz.prog 110 [a0, a1] s (fun r1 s2 => bindO (vBin .geq r1 (.lit (.int .i64 0))) fun x3 => Q x3 s2)
theorem c94_eq (a0 a1 : HV) (s : HS) (Q : HV → HS → Prop) : (match Tryz.f94.body with | some c => hwp Tryz.prog (fun p => none) false 1 c (hretQ Tryz.prog Tryz.f94.results.toList Q) (([a0, a1] : List HV) ++ List.replicate (Tryz.f94.ntmps - 2) (.lit undef)) s | none => False) = c94 a0 a1 s Q := by kernel_rfl
theorem HC94 {a0 a1 : HV} {s : HS} {Q : HV → HS → Prop} (h : c94 a0 a1 s Q) : HC Tryz.prog 94 [a0, a1] s Q := HC_by Tryz.func94 (by have := c94_eq a0 a1 s Q; exact this.mpr h)
/-- slices.Clone[[]cordwain/assign.Member,cordwain/assign.Member] -/
def c111 (a0 : HV) (s : HS) (Q : HV → HS → Prop) : Prop :=
  bindO (vCmp (Tryz.prog.underlying 102) .eql a0 (.lit (.slice none 0 0))) fun x1 => hcond x1 (Q (.lit (.slice none 0 0)) s) (hBS s 2 0 [] [] (fun x2 s3 => hAppend s3 2 40 x2 a0 (fun x4 s5 => Q x4 s5)))
theorem c111_eq (a0 : HV) (s : HS) (Q : HV → HS → Prop) : (match Tryz.f111.body with | some c => hwp Tryz.prog (fun p => none) false 1 c (hretQ Tryz.prog Tryz.f111.results.toList Q) (([a0] : List HV) ++ List.replicate (Tryz.f111.ntmps - 1) (.lit undef)) s | none => False) = c111 a0 s Q := by kernel_rfl
theorem HC111 {a0 : HV} {s : HS} {Q : HV → HS → Prop} (h : c111 a0 s Q) : HC Tryz.prog 111 [a0] s Q := HC_by Tryz.func111 (by have := c111_eq a0 s Q; exact this.mpr h)
/-- slices.insertionSortCmpFunc[cordwain/assign.Member] -/
def c122 (a0 a1 a2 a3 : HV) (s : HS) (Q : HV → HS → Prop) : Prop :=
  bindO (vBin .add a1 (.lit (.int .i64 1))) fun x1 => HLoop (fun y3 s4 K2 => bindO (vBin .lss (y3.headD .junk) a2) fun x5 => hcond x5 (HLoop (fun y7 s8 K6 => Join (fun K9 => bindO (vBin .gtr (y7.headD .junk) a1) fun x12 => hcond x12 (bindO (vIdx 2 a0 (y7.headD .junk)) fun x13 => bindO (vLoad s8 x13 2 true) fun x14 => bindO (vBin .sub (y7.headD .junk) (.lit (.int .i64 1))) fun x15 => bindO (vIdx 2 a0 x15) fun x16 => bindO (vLoad s8 x16 2 true) fun x17 => hcall Tryz.prog a3 [x14, x17] s8 (fun r18 s19 => bindO (vBin .lss r18 (.lit (.int .i64 0))) fun x20 => K9 [x20] s19)) (K9 [(.lit (.bool false))] s8)) (fun y10 s11 => hcond (y10.headD .junk) (bindO (vBin .sub (y7.headD .junk) (.lit (.int .i64 1))) fun x21 => bindO (vBin .sub (y7.headD .junk) (.lit (.int .i64 1))) fun x22 => bindO (vIdx 2 a0 x22) fun x23 => bindO (vLoad s11 x23 2 true) fun x24 => bindO (vIdx 2 a0 (y7.headD .junk)) fun x25 => bindO (vLoad s11 x25 2 true) fun x26 => bindO (vIdx 2 a0 (y7.headD .junk)) fun x27 => hStore s11 x27 x24 2 (fun s28 => bindO (vIdx 2 a0 x21) fun x29 => hStore s28 x29 x26 2 (fun s30 => bindO (vBin .sub (y7.headD .junk) (.lit (.int .i64 1))) fun x31 => K6 [x31] s30))) (bindO (vBin .add (y3.headD .junk) (.lit (.int .i64 1))) fun x32 => K2 [x32] s11))) [(y3.headD .junk)] s4) (Q (.tup []) s4)) [x1] s
theorem c122_eq (a0 a1 a2 a3 : HV) (s : HS) (Q : HV → HS → Prop) : (match Tryz.f122.body with | some c => hwp Tryz.prog (fun p => if p = 6 then some [8] else if p = 402 then some [9] else if p = 1608 then some [34] else none) false 1 c (hretQ Tryz.prog Tryz.f122.results.toList Q) (([a0, a1, a2, a3] : List HV) ++ List.replicate (Tryz.f122.ntmps - 4) (.lit undef)) s | none => False) = c122 a0 a1 a2 a3 s Q := by kernel_rfl
theorem HC122 {a0 a1 a2 a3 : HV} {s : HS} {Q : HV → HS → Prop} (h : c122 a0 a1 a2 a3 s Q) : HC Tryz.prog 122 [a0, a1, a2, a3] s Q := HC_by Tryz.func122 (by have := c122_eq a0 a1 a2 a3 s Q; exact this.mpr h)
/-- slices.swapRangeCmpFunc[cordwain/assign.Member] -/
def c127 (a0 a1 a2 a3 a4 : HV) (s : HS) (Q : HV → HS → Prop) : Prop :=
  HLoop (fun y2 s3 K1 => bindO (vBin .lss (y2.headD .junk) a3) fun x4 => hcond x4 (bindO (vBin .add a1 (y2.headD .junk)) fun x5 => bindO (vBin .add a2 (y2.headD .junk)) fun x6 => bindO (vBin .add a2 (y2.headD .junk)) fun x7 => bindO (vIdx 2 a0 x7) fun x8 => bindO (vLoad s3 x8 2 true) fun x9 => bindO (vBin .add a1 (y2.headD .junk)) fun x10 => bindO (vIdx 2 a0 x10) fun x11 => bindO (vLoad s3 x11 2 true) fun x12 => bindO (vIdx 2 a0 x5) fun x13 => hStore s3 x13 x9 2 (fun s14 => bindO (vIdx 2 a0 x6) fun x15 => hStore s14 x15 x12 2 (fun s16 => bindO (vBin .add (y2.headD .junk) (.lit (.int .i64 1))) fun x17 => K1 [x17] s16))) (Q (.tup []) s3)) [(.lit (.int .i64 0))] s
theorem c127_eq (a0 a1 a2 a3 a4 : HV) (s : HS) (Q : HV → HS → Prop) : (match Tryz.f127.body with | some c => hwp Tryz.prog (fun p => if p = 6 then some [10] else none) false 1 c (hretQ Tryz.prog Tryz.f127.results.toList Q) (([a0, a1, a2, a3, a4] : List HV) ++ List.replicate (Tryz.f127.ntmps - 5) (.lit undef)) s | none => False) = c127 a0 a1 a2 a3 a4 s Q := by kernel_rfl
theorem HC127 {a0 a1 a2 a3 a4 : HV} {s : HS} {Q : HV → HS → Prop} (h : c127 a0 a1 a2 a3 a4 s Q) : HC Tryz.prog 127 [a0, a1, a2, a3, a4] s Q := HC_by Tryz.func127 (by have := c127_eq a0 a1 a2 a3 a4 s Q; exact this.mpr h)
/-- slices.rotateCmpFunc[cordwain/assign.Member] -/
def c125 (a0 a1 a2 a3 a4 : HV) (s : HS) (Q : HV → HS → Prop) : Prop :=
  bindO (vBin .sub a2 a1) fun x1 => bindO (vBin .sub a3 a2) fun x2 => HLoop (fun y4 s5 K3 => bindO (vCmp (Tryz.prog.underlying 3) .neq (y4.headD .junk) (y4.tail.headD .junk)) fun x6 => hcond x6 (bindO (vBin .gtr (y4.headD .junk) (y4.tail.headD .junk)) fun x7 => hcond x7 (bindO (vBin .sub a2 (y4.headD .junk)) fun x8 => HC Tryz.prog 127 [a0, x8, a2, (y4.tail.headD .junk), a4] s5 (fun r9 s10 => bindO (vBin .sub (y4.headD .junk) (y4.tail.headD .junk)) fun x11 => K3 [x11, (y4.tail.headD .junk)] s10)) (bindO (vBin .sub a2 (y4.headD .junk)) fun x12 => bindO (vBin .add a2 (y4.tail.headD .junk)) fun x13 => bindO (vBin .sub x13 (y4.headD .junk)) fun x14 => HC Tryz.prog 127 [a0, x12, x14, (y4.headD .junk), a4] s5 (fun r15 s16 => bindO (vBin .sub (y4.tail.headD .junk) (y4.headD .junk)) fun x17 => K3 [(y4.headD .junk), x17] s16))) (bindO (vBin .sub a2 (y4.headD .junk)) fun x18 => HC Tryz.prog 127 [a0, x18, a2, (y4.headD .junk), a4] s5 (fun r19 s20 => Q (.tup []) s20))) [x1, x2] s
theorem c125_eq (a0 a1 a2 a3 a4 : HV) (s : HS) (Q : HV → HS → Prop) : (match Tryz.f125.body with | some c => hwp Tryz.prog (fun p => if p = 28 then some [10, 11] else none) false 1 c (hretQ Tryz.prog Tryz.f125.results.toList Q) (([a0, a1, a2, a3, a4] : List HV) ++ List.replicate (Tryz.f125.ntmps - 5) (.lit undef)) s | none => False) = c125 a0 a1 a2 a3 a4 s Q := by kernel_rfl
theorem HC125 {a0 a1 a2 a3 a4 : HV} {s : HS} {Q : HV → HS → Prop} (h : c125 a0 a1 a2 a3 a4 s Q) : HC Tryz.prog 125 [a0, a1, a2, a3, a4] s Q := HC_by Tryz.func125 (by have := c125_eq a0 a1 a2 a3 a4 s Q; exact this.mpr h)
/-- slices.symMergeCmpFunc[cordwain/assign.Member] -/
def c123 (a0 a1 a2 a3 a4 : HV) (s : HS) (Q : HV → HS → Prop) : Prop :=
  bindO (vBin .sub a2 a1) fun x1 => bindO (vCmp (Tryz.prog.underlying 3) .eql x1 (.lit (.int .i64 1))) fun x2 => hcond x2 (HLoop (fun y4 s5 K3 => bindO (vBin .lss (y4.headD .junk) (y4.tail.headD .junk)) fun x6 => hcond x6 (bindO (vBin .add (y4.headD .junk) (y4.tail.headD .junk)) fun x7 => bindO (vToInt .u64 x7) fun x8 => bindO (vBin .shr x8 (.lit (.int .u64 1))) fun x9 => bindO (vToInt .i64 x9) fun x10 => bindO (vIdx 2 a0 x10) fun x11 => bindO (vLoad s5 x11 2 true) fun x12 => bindO (vIdx 2 a0 a1) fun x13 => bindO (vLoad s5 x13 2 true) fun x14 => hcall Tryz.prog a4 [x12, x14] s5 (fun r15 s16 => bindO (vBin .lss r15 (.lit (.int .i64 0))) fun x17 => hcond x17 (bindO (vBin .add x10 (.lit (.int .i64 1))) fun x18 => K3 [x18, (y4.tail.headD .junk)] s16) (K3 [(y4.headD .junk), x10] s16))) (HLoop (fun y20 s21 K19 => bindO (vBin .sub (y4.headD .junk) (.lit (.int .i64 1))) fun x22 => bindO (vBin .lss (y20.headD .junk) x22) fun x23 => hcond x23 (bindO (vBin .add (y20.headD .junk) (.lit (.int .i64 1))) fun x24 => bindO (vBin .add (y20.headD .junk) (.lit (.int .i64 1))) fun x25 => bindO (vIdx 2 a0 x25) fun x26 => bindO (vLoad s21 x26 2 true) fun x27 => bindO (vIdx 2 a0 (y20.headD .junk)) fun x28 => bindO (vLoad s21 x28 2 true) fun x29 => bindO (vIdx 2 a0 (y20.headD .junk)) fun x30 => hStore s21 x30 x27 2 (fun s31 => bindO (vIdx 2 a0 x24) fun x32 => hStore s31 x32 x29 2 (fun s33 => bindO (vBin .add (y20.headD .junk) (.lit (.int .i64 1))) fun x34 => K19 [x34] s33))) (Q (.tup []) s21)) [a1] s5)) [a2, a3] s) (bindO (vBin .sub a3 a2) fun x35 => bindO (vCmp (Tryz.prog.underlying 3) .eql x35 (.lit (.int .i64 1))) fun x36 => hcond x36 (HLoop (fun y38 s39 K37 => bindO (vBin .lss (y38.headD .junk) (y38.tail.headD .junk)) fun x40 => hcond x40 (bindO (vBin .add (y38.headD .junk) (y38.tail.headD .junk)) fun x41 => bindO (vToInt .u64 x41) fun x42 => bindO (vBin .shr x42 (.lit (.int .u64 1))) fun x43 => bindO (vToInt .i64 x43) fun x44 => bindO (vIdx 2 a0 a2) fun x45 => bindO (vLoad s39 x45 2 true) fun x46 => bindO (vIdx 2 a0 x44) fun x47 => bindO (vLoad s39 x47 2 true) fun x48 => hcall Tryz.prog a4 [x46, x48] s39 (fun r49 s50 => bindO (vBin .lss r49 (.lit (.int .i64 0))) fun x51 => bindO (vUn .not x51) fun x52 => hcond x52 (bindO (vBin .add x44 (.lit (.int .i64 1))) fun x53 => K37 [x53, (y38.tail.headD .junk)] s50) (K37 [(y38.headD .junk), x44] s50))) (HLoop (fun y55 s56 K54 => bindO (vBin .gtr (y55.headD .junk) (y38.headD .junk)) fun x57 => hcond x57 (bindO (vBin .sub (y55.headD .junk) (.lit (.int .i64 1))) fun x58 => bindO (vBin .sub (y55.headD .junk) (.lit (.int .i64 1))) fun x59 => bindO (vIdx 2 a0 x59) fun x60 => bindO (vLoad s56 x60 2 true) fun x61 => bindO (vIdx 2 a0 (y55.headD .junk)) fun x62 => bindO (vLoad s56 x62 2 true) fun x63 => bindO (vIdx 2 a0 (y55.headD .junk)) fun x64 => hStore s56 x64 x61 2 (fun s65 => bindO (vIdx 2 a0 x58) fun x66 => hStore s65 x66 x63 2 (fun s67 => bindO (vBin .sub (y55.headD .junk) (.lit (.int .i64 1))) fun x68 => K54 [x68] s67))) (Q (.tup []) s56)) [a2] s39)) [a1, a2] s) (bindO (vBin .add a1 a3) fun x69 => bindO (vToInt .u64 x69) fun x70 => bindO (vBin .shr x70 (.lit (.int .u64 1))) fun x71 => bindO (vToInt .i64 x71) fun x72 => bindO (vBin .add x72 a2) fun x73 => Join (fun K74 => bindO (vBin .gtr a2 x72) fun x77 => hcond x77 (bindO (vBin .sub x73 a3) fun x78 => K74 [x78, x72] s) (K74 [a1, a2] s)) (fun y75 s76 => bindO (vBin .sub x73 (.lit (.int .i64 1))) fun x79 => HLoop (fun y81 s82 K80 => bindO (vBin .lss (y81.headD .junk) (y81.tail.headD .junk)) fun x83 => hcond x83 (bindO (vBin .add (y81.headD .junk) (y81.tail.headD .junk)) fun x84 => bindO (vToInt .u64 x84) fun x85 => bindO (vBin .shr x85 (.lit (.int .u64 1))) fun x86 => bindO (vToInt .i64 x86) fun x87 => bindO (vBin .sub x79 x87) fun x88 => bindO (vIdx 2 a0 x88) fun x89 => bindO (vLoad s82 x89 2 true) fun x90 => bindO (vIdx 2 a0 x87) fun x91 => bindO (vLoad s82 x91 2 true) fun x92 => hcall Tryz.prog a4 [x90, x92] s82 (fun r93 s94 => bindO (vBin .lss r93 (.lit (.int .i64 0))) fun x95 => bindO (vUn .not x95) fun x96 => hcond x96 (bindO (vBin .add x87 (.lit (.int .i64 1))) fun x97 => K80 [x97, (y81.tail.headD .junk)] s94) (K80 [(y81.headD .junk), x87] s94))) (bindO (vBin .sub x73 (y81.headD .junk)) fun x98 => Join (fun K99 => Join (fun K102 => bindO (vBin .lss (y81.headD .junk) a2) fun x105 => hcond x105 (bindO (vBin .lss a2 x98) fun x106 => K102 [x106] s82) (K102 [(.lit (.bool false))] s82)) (fun y103 s104 => hcond (y103.headD .junk) (HC Tryz.prog 125 [a0, (y81.headD .junk), a2, x98, a4] s104 (fun r107 s108 => K99 [] s108)) (K99 [] s104))) (fun y100 s101 => Join (fun K109 => Join (fun K112 => bindO (vBin .lss a1 (y81.headD .junk)) fun x115 => hcond x115 (bindO (vBin .lss (y81.headD .junk) x72) fun x116 => K112 [x116] s101) (K112 [(.lit (.bool false))] s101)) (fun y113 s114 => hcond (y113.headD .junk) (HC Tryz.prog 123 [a0, a1, (y81.headD .junk), x72, a4] s114 (fun r117 s118 => K109 [] s118)) (K109 [] s114))) (fun y110 s111 => Join (fun K119 => bindO (vBin .lss x72 x98) fun x122 => hcond x122 (bindO (vBin .lss x98 a3) fun x123 => K119 [x123] s111) (K119 [(.lit (.bool false))] s111)) (fun y120 s121 => hcond (y120.headD .junk) (HC Tryz.prog 123 [a0, x72, x98, a3, a4] s121 (fun r124 s125 => Q (.tup []) s125)) (Q (.tup []) s121)))))) [(y75.headD .junk), (y75.tail.headD .junk)] s76)))
theorem c123_eq (a0 a1 a2 a3 a4 : HV) (s : HS) (Q : HV → HS → Prop) : (match Tryz.f123.body with | some c => hwp Tryz.prog (fun p => if p = 63 then some [20, 21] else if p = 172 then some [10, 11] else if p = 428 then some [14, 15] else if p = 698 then some [13] else if p = 1020 then some [20, 21] else if p = 1023 then some [] else if p = 1722 then some [17] else if p = 2046 then some [185] else if p = 2047 then some [] else if p = 4094 then some [199] else if p = 4095 then some [213] else none) false 1 c (hretQ Tryz.prog Tryz.f123.results.toList Q) (([a0, a1, a2, a3, a4] : List HV) ++ List.replicate (Tryz.f123.ntmps - 5) (.lit undef)) s | none => False) = c123 a0 a1 a2 a3 a4 s Q := by kernel_rfl
theorem HC123 {a0 a1 a2 a3 a4 : HV} {s : HS} {Q : HV → HS → Prop} (h : c123 a0 a1 a2 a3 a4 s Q) : HC Tryz.prog 123 [a0, a1, a2, a3, a4] s Q := HC_by Tryz.func123 (by have := c123_eq a0 a1 a2 a3 a4 s Q; exact this.mpr h)
/-- slices.stableCmpFunc[cordwain/assign.Member] -/
def c119 (a0 a1 a2 : HV) (s : HS) (Q : HV → HS → Prop) : Prop :=
  HLoop (fun y2 s3 K1 => bindO (vBin .leq (y2.tail.headD .junk) a1) fun x4 => hcond x4 (HC Tryz.prog 122 [a0, (y2.headD .junk), (y2.tail.headD .junk), a2] s3 (fun r5 s6 => bindO (vBin .add (y2.tail.headD .junk) (.lit (.int .i64 20))) fun x7 => K1 [(y2.tail.headD .junk), x7] s6)) (HC Tryz.prog 122 [a0, (y2.headD .junk), a1, a2] s3 (fun r8 s9 => HLoop (fun y11 s12 K10 => bindO (vBin .lss (y11.headD .junk) a1) fun x13 => hcond x13 (bindO (vBin .mul (.lit (.int .i64 2)) (y11.headD .junk)) fun x14 => HLoop (fun y16 s17 K15 => bindO (vBin .leq (y16.tail.headD .junk) a1) fun x18 => hcond x18 (bindO (vBin .add (y16.headD .junk) (y11.headD .junk)) fun x19 => HC Tryz.prog 123 [a0, (y16.headD .junk), x19, (y16.tail.headD .junk), a2] s17 (fun r20 s21 => bindO (vBin .mul (.lit (.int .i64 2)) (y11.headD .junk)) fun x22 => bindO (vBin .add (y16.tail.headD .junk) x22) fun x23 => K15 [(y16.tail.headD .junk), x23] s21)) (Join (fun K24 => bindO (vBin .add (y16.headD .junk) (y11.headD .junk)) fun x27 => bindO (vBin .lss x27 a1) fun x28 => hcond x28 (HC Tryz.prog 123 [a0, (y16.headD .junk), x27, a1, a2] s17 (fun r29 s30 => K24 [] s30)) (K24 [] s17)) (fun y25 s26 => bindO (vBin .mul (y11.headD .junk) (.lit (.int .i64 2))) fun x31 => K10 [x31] s26))) [(.lit (.int .i64 0)), x14] s12) (Q (.tup []) s12)) [(.lit (.int .i64 20))] s9))) [(.lit (.int .i64 0)), (.lit (.int .i64 20))] s
theorem c119_eq (a0 a1 a2 : HV) (s : HS) (Q : HV → HS → Prop) : (match Tryz.f119.body with | some c => hwp Tryz.prog (fun p => if p = 28 then some [7, 8] else if p = 62 then some [6] else if p = 1995 then some [] else if p = 3988 then some [7, 8] else none) false 1 c (hretQ Tryz.prog Tryz.f119.results.toList Q) (([a0, a1, a2] : List HV) ++ List.replicate (Tryz.f119.ntmps - 3) (.lit undef)) s | none => False) = c119 a0 a1 a2 s Q := by kernel_rfl
theorem HC119 {a0 a1 a2 : HV} {s : HS} {Q : HV → HS → Prop} (h : c119 a0 a1 a2 s Q) : HC Tryz.prog 119 [a0, a1, a2] s Q := HC_by Tryz.func119 (by have := c119_eq a0 a1 a2 s Q; exact this.mpr h)
/-- slices.SortStableFunc[[]cordwain/assign.Member,cordwain/assign.Member] -/
def c112 (a0 a1 : HV) (s : HS) (Q : HV → HS → Prop) : Prop :=
  bindO (vLenT (Tryz.prog.underlying 102) s a0) fun x1 => HC Tryz.prog 119 [a0, x1, a1] s (fun r2 s3 => Q (.tup []) s3)
theorem c112_eq (a0 a1 : HV) (s : HS) (Q : HV → HS → Prop) : (match Tryz.f112.body with | some c => hwp Tryz.prog (fun p => none) false 1 c (hretQ Tryz.prog Tryz.f112.results.toList Q) (([a0, a1] : List HV) ++ List.replicate (Tryz.f112.ntmps - 2) (.lit undef)) s | none => False) = c112 a0 a1 s Q := by kernel_rfl
theorem HC112 {a0 a1 : HV} {s : HS} {Q : HV → HS → Prop} (h : c112 a0 a1 s Q) : HC Tryz.prog 112 [a0, a1] s Q := HC_by Tryz.func112 (by have := c112_eq a0 a1 s Q; exact this.mpr h)
/-- cmp.Compare[string] -/
def c103 (a0 a1 : HV) (s : HS) (Q : HV → HS → Prop) : Prop :=
  HC Tryz.prog 116 [a0] s (fun r1 s2 => HC Tryz.prog 116 [a1] s2 (fun r3 s4 => hcond r1 (hcond r3 (Q (.lit (.int .i64 0)) s4) (Q (.lit (.int .i64 (-1))) s4)) (hcond r3 (Q (.lit (.int .i64 1)) s4) (bindO (vBin .lss a0 a1) fun x5 => hcond x5 (Q (.lit (.int .i64 (-1))) s4) (bindO (vBin .gtr a0 a1) fun x6 => hcond x6 (Q (.lit (.int .i64 1)) s4) (Q (.lit (.int .i64 0)) s4))))))
theorem c103_eq (a0 a1 : HV) (s : HS) (Q : HV → HS → Prop) : (match Tryz.f103.body with | some c => hwp Tryz.prog (fun p => none) false 1 c (hretQ Tryz.prog Tryz.f103.results.toList Q) (([a0, a1] : List HV) ++ List.replicate (Tryz.f103.ntmps - 2) (.lit undef)) s | none => False) = c103 a0 a1 s Q := by kernel_rfl
theorem HC103 {a0 a1 : HV} {s : HS} {Q : HV → HS → Prop} (h : c103 a0 a1 s Q) : HC Tryz.prog 103 [a0, a1] s Q := HC_by Tryz.func103 (by have := c103_eq a0 a1 s Q; exact this.mpr h)
/-- cmp.isNaN[string] -/
def c116 (a0 : HV) (s : HS) (Q : HV → HS → Prop) : Prop :=
  bindO (vCmp (Tryz.prog.underlying 9) .neq a0 a0) fun x1 => Q x1 s
theorem c116_eq (a0 : HV) (s : HS) (Q : HV → HS → Prop) : (match Tryz.f116.body with | some c => hwp Tryz.prog (fun p => none) false 1 c (hretQ Tryz.prog Tryz.f116.results.toList Q) (([a0] : List HV) ++ List.replicate (Tryz.f116.ntmps - 1) (.lit undef)) s | none => False) = c116 a0 s Q := by kernel_rfl
theorem HC116 {a0 : HV} {s : HS} {Q : HV → HS → Prop} (h : c116 a0 s Q) : HC Tryz.prog 116 [a0] s Q := HC_by Tryz.func116 (by have := c116_eq a0 s Q; exact this.mpr h)
/-- cordwain/assign.sorted[cordwain/assign.Member]$1 -/
def c113 (a0 a1 a2 : HV) (s : HS) (Q : HV → HS → Prop) : Prop :=
  hBox s a0 (fun x1 s2 => hBox s2 a1 (fun x3 s4 => bindO (vLoad s4 a2 1 false) fun x5 => bindO (vLoad s4 x1 2 true) fun x6 => bindO (vLoad s4 a2 1 false) fun x7 => bindO (vLoad s4 x3 2 true) fun x8 => hcall Tryz.prog x5 [x6] s4 (fun r9 s10 => (vLoad s10 x3 2 true = vLoad s4 x3 2 true ∧ (vLoad s10 a2 1 false = vLoad s4 a2 1 false ∧ hcall Tryz.prog x7 [x8] s10 (fun r11 s12 => HC Tryz.prog 103 [r9, r11] s12 (fun r13 s14 => Q r13 s14)))))))
theorem c113_eq (a0 a1 a2 : HV) (s : HS) (Q : HV → HS → Prop) : (match Tryz.f113.body with | some c => hwp Tryz.prog (fun p => none) false 1 c (hretQ Tryz.prog Tryz.f113.results.toList Q) (([a0, a1, a2] : List HV) ++ List.replicate (Tryz.f113.ntmps - 3) (.lit undef)) s | none => False) = c113 a0 a1 a2 s Q := by kernel_rfl
theorem HC113 {a0 a1 a2 : HV} {s : HS} {Q : HV → HS → Prop} (h : c113 a0 a1 a2 s Q) : HC Tryz.prog 113 [a0, a1, a2] s Q := HC_by Tryz.func113 (by have := c113_eq a0 a1 a2 s Q; exact this.mpr h)
/-- cordwain/assign.open$2 -/
def c97 (a0 : HV) (s : HS) (Q : HV → HS → Prop) : Prop :=
  hBox s a0 (fun x1 s2 => bindO (vField 0 x1) fun x3 => bindO (vLoad s2 x3 1 false) fun x4 => Q x4 s2)
theorem c97_eq (a0 : HV) (s : HS) (Q : HV → HS → Prop) : (match Tryz.f97.body with | some c => hwp Tryz.prog (fun p => none) false 1 c (hretQ Tryz.prog Tryz.f97.results.toList Q) (([a0] : List HV) ++ List.replicate (Tryz.f97.ntmps - 1) (.lit undef)) s | none => False) = c97 a0 s Q := by kernel_rfl
theorem HC97 {a0 : HV} {s : HS} {Q : HV → HS → Prop} (h : c97 a0 s Q) : HC Tryz.prog 97 [a0] s Q := HC_by Tryz.func97 (by have := c97_eq a0 s Q; exact this.mpr h)
/-- cordwain/assign.sorted[cordwain/assign.Member] -/
def c96 (a0 a1 : HV) (s : HS) (Q : HV → HS → Prop) : Prop :=
  hBox s a1 (fun x1 s2 => HC Tryz.prog 111 [a0] s2 (fun r3 s4 => HC Tryz.prog 112 [r3, (.func (.func 113) [x1])] s4 (fun r5 s6 => HLoop (fun y8 s9 K7 => bindO (vLenT (Tryz.prog.underlying 102) s9 r3) fun x10 => bindO (vBin .lss (y8.headD .junk) x10) fun x11 => hcond x11 (bindO (vLoad s9 x1 1 false) fun x12 => bindO (vIdx 2 r3 (y8.headD .junk)) fun x13 => bindO (vLoad s9 x13 2 true) fun x14 => bindO (vLoad s9 x1 1 false) fun x15 => bindO (vBin .sub (y8.headD .junk) (.lit (.int .i64 1))) fun x16 => bindO (vIdx 2 r3 x16) fun x17 => bindO (vLoad s9 x17 2 true) fun x18 => hcall Tryz.prog x12 [x14] s9 (fun r19 s20 => (vLoad s20 x17 2 true = vLoad s9 x17 2 true ∧ (vLoad s20 x1 1 false = vLoad s9 x1 1 false ∧ hcall Tryz.prog x15 [x18] s20 (fun r21 s22 => bindO (vCmp (Tryz.prog.underlying 9) .eql r19 r21) fun x23 => hcond x23 (Q (.tup [(.lit (.slice none 0 0)), (.lit (.bool false))]) s22) (bindO (vBin .add (y8.headD .junk) (.lit (.int .i64 1))) fun x24 => K7 [x24] s22)))))) (Q (.tup [r3, (.lit (.bool true))]) s9)) [(.lit (.int .i64 1))] s6)))
theorem c96_eq (a0 a1 : HV) (s : HS) (Q : HV → HS → Prop) : (match Tryz.f96.body with | some c => hwp Tryz.prog (fun p => if p = 122 then some [7] else none) false 1 c (hretQ Tryz.prog Tryz.f96.results.toList Q) (([a0, a1] : List HV) ++ List.replicate (Tryz.f96.ntmps - 2) (.lit undef)) s | none => False) = c96 a0 a1 s Q := by kernel_rfl
theorem HC96 {a0 a1 : HV} {s : HS} {Q : HV → HS → Prop} (h : c96 a0 a1 s Q) : HC Tryz.prog 96 [a0, a1] s Q := HC_by Tryz.func96 (by have := c96_eq a0 a1 s Q; exact this.mpr h)
/-- slices.insertionSortCmpFunc[cordwain/assign.Topic] -/
def c120 (a0 a1 a2 a3 : HV) (s : HS) (Q : HV → HS → Prop) : Prop :=
  bindO (vBin .add a1 (.lit (.int .i64 1))) fun x1 => HLoop (fun y3 s4 K2 => bindO (vBin .lss (y3.headD .junk) a2) fun x5 => hcond x5 (HLoop (fun y7 s8 K6 => Join (fun K9 => bindO (vBin .gtr (y7.headD .junk) a1) fun x12 => hcond x12 (bindO (vIdx 2 a0 (y7.headD .junk)) fun x13 => bindO (vLoad s8 x13 2 true) fun x14 => bindO (vBin .sub (y7.headD .junk) (.lit (.int .i64 1))) fun x15 => bindO (vIdx 2 a0 x15) fun x16 => bindO (vLoad s8 x16 2 true) fun x17 => hcall Tryz.prog a3 [x14, x17] s8 (fun r18 s19 => bindO (vBin .lss r18 (.lit (.int .i64 0))) fun x20 => K9 [x20] s19)) (K9 [(.lit (.bool false))] s8)) (fun y10 s11 => hcond (y10.headD .junk) (bindO (vBin .sub (y7.headD .junk) (.lit (.int .i64 1))) fun x21 => bindO (vBin .sub (y7.headD .junk) (.lit (.int .i64 1))) fun x22 => bindO (vIdx 2 a0 x22) fun x23 => bindO (vLoad s11 x23 2 true) fun x24 => bindO (vIdx 2 a0 (y7.headD .junk)) fun x25 => bindO (vLoad s11 x25 2 true) fun x26 => bindO (vIdx 2 a0 (y7.headD .junk)) fun x27 => hStore s11 x27 x24 2 (fun s28 => bindO (vIdx 2 a0 x21) fun x29 => hStore s28 x29 x26 2 (fun s30 => bindO (vBin .sub (y7.headD .junk) (.lit (.int .i64 1))) fun x31 => K6 [x31] s30))) (bindO (vBin .add (y3.headD .junk) (.lit (.int .i64 1))) fun x32 => K2 [x32] s11))) [(y3.headD .junk)] s4) (Q (.tup []) s4)) [x1] s
theorem c120_eq (a0 a1 a2 a3 : HV) (s : HS) (Q : HV → HS → Prop) : (match Tryz.f120.body with | some c => hwp Tryz.prog (fun p => if p = 6 then some [8] else if p = 402 then some [9] else if p = 1608 then some [34] else none) false 1 c (hretQ Tryz.prog Tryz.f120.results.toList Q) (([a0, a1, a2, a3] : List HV) ++ List.replicate (Tryz.f120.ntmps - 4) (.lit undef)) s | none => False) = c120 a0 a1 a2 a3 s Q := by kernel_rfl
theorem HC120 {a0 a1 a2 a3 : HV} {s : HS} {Q : HV → HS → Prop} (h : c120 a0 a1 a2 a3 s Q) : HC Tryz.prog 120 [a0, a1, a2, a3] s Q := HC_by Tryz.func120 (by have := c120_eq a0 a1 a2 a3 s Q; exact this.mpr h)
/-- slices.swapRangeCmpFunc[cordwain/assign.Topic] -/
def c126 (a0 a1 a2 a3 a4 : HV) (s : HS) (Q : HV → HS → Prop) : Prop :=
  HLoop (fun y2 s3 K1 => bindO (vBin .lss (y2.headD .junk) a3) fun x4 => hcond x4 (bindO (vBin .add a1 (y2.headD .junk)) fun x5 => bindO (vBin .add a2 (y2.headD .junk)) fun x6 => bindO (vBin .add a2 (y2.headD .junk)) fun x7 => bindO (vIdx 2 a0 x7) fun x8 => bindO (vLoad s3 x8 2 true) fun x9 => bindO (vBin .add a1 (y2.headD .junk)) fun x10 => bindO (vIdx 2 a0 x10) fun x11 => bindO (vLoad s3 x11 2 true) fun x12 => bindO (vIdx 2 a0 x5) fun x13 => hStore s3 x13 x9 2 (fun s14 => bindO (vIdx 2 a0 x6) fun x15 => hStore s14 x15 x12 2 (fun s16 => bindO (vBin .add (y2.headD .junk) (.lit (.int .i64 1))) fun x17 => K1 [x17] s16))) (Q (.tup []) s3)) [(.lit (.int .i64 0))] s
theorem c126_eq (a0 a1 a2 a3 a4 : HV) (s : HS) (Q : HV → HS → Prop) : (match Tryz.f126.body with | some c => hwp Tryz.prog (fun p => if p = 6 then some [10] else none) false 1 c (hretQ Tryz.prog Tryz.f126.results.toList Q) (([a0, a1, a2, a3, a4] : List HV) ++ List.replicate (Tryz.f126.ntmps - 5) (.lit undef)) s | none => False) = c126 a0 a1 a2 a3 a4 s Q := by kernel_rfl
theorem HC126 {a0 a1 a2 a3 a4 : HV} {s : HS} {Q : HV → HS → Prop} (h : c126 a0 a1 a2 a3 a4 s Q) : HC Tryz.prog 126 [a0, a1, a2, a3, a4] s Q := HC_by Tryz.func126 (by have := c126_eq a0 a1 a2 a3 a4 s Q; exact this.mpr h)
/-- slices.rotateCmpFunc[cordwain/assign.Topic] -/
def c124 (a0 a1 a2 a3 a4 : HV) (s : HS) (Q : HV → HS → Prop) : Prop :=
  bindO (vBin .sub a2 a1) fun x1 => bindO (vBin .sub a3 a2) fun x2 => HLoop (fun y4 s5 K3 => bindO (vCmp (Tryz.prog.underlying 3) .neq (y4.headD .junk) (y4.tail.headD .junk)) fun x6 => hcond x6 (bindO (vBin .gtr (y4.headD .junk) (y4.tail.headD .junk)) fun x7 => hcond x7 (bindO (vBin .sub a2 (y4.headD .junk)) fun x8 => HC Tryz.prog 126 [a0, x8, a2, (y4.tail.headD .junk), a4] s5 (fun r9 s10 => bindO (vBin .sub (y4.headD .junk) (y4.tail.headD .junk)) fun x11 => K3 [x11, (y4.tail.headD .junk)] s10)) (bindO (vBin .sub a2 (y4.headD .junk)) fun x12 => bindO (vBin .add a2 (y4.tail.headD .junk)) fun x13 => bindO (vBin .sub x13 (y4.headD .junk)) fun x14 => HC Tryz.prog 126 [a0, x12, x14, (y4.headD .junk), a4] s5 (fun r15 s16 => bindO (vBin .sub (y4.tail.headD .junk) (y4.headD .junk)) fun x17 => K3 [(y4.headD .junk), x17] s16))) (bindO (vBin .sub a2 (y4.headD .junk)) fun x18 => HC Tryz.prog 126 [a0, x18, a2, (y4.headD .junk), a4] s5 (fun r19 s20 => Q (.tup []) s20))) [x1, x2] s
theorem c124_eq (a0 a1 a2 a3 a4 : HV) (s : HS) (Q : HV → HS → Prop) : (match Tryz.f124.body with | some c => hwp Tryz.prog (fun p => if p = 28 then some [10, 11] else none) false 1 c (hretQ Tryz.prog Tryz.f124.results.toList Q) (([a0, a1, a2, a3, a4] : List HV) ++ List.replicate (Tryz.f124.ntmps - 5) (.lit undef)) s | none => False) = c124 a0 a1 a2 a3 a4 s Q := by kernel_rfl
theorem HC124 {a0 a1 a2 a3 a4 : HV} {s : HS} {Q : HV → HS → Prop} (h : c124 a0 a1 a2 a3 a4 s Q) : HC Tryz.prog 124 [a0, a1, a2, a3, a4] s Q := HC_by Tryz.func124 (by have := c124_eq a0 a1 a2 a3 a4 s Q; exact this.mpr h)
/-- slices.symMergeCmpFunc[cordwain/assign.Topic] -/
def c121 (a0 a1 a2 a3 a4 : HV) (s : HS) (Q : HV → HS → Prop) : Prop :=
  bindO (vBin .sub a2 a1) fun x1 => bindO (vCmp (Tryz.prog.underlying 3) .eql x1 (.lit (.int .i64 1))) fun x2 => hcond x2 (HLoop (fun y4 s5 K3 => bindO (vBin .lss (y4.headD .junk) (y4.tail.headD .junk)) fun x6 => hcond x6 (bindO (vBin .add (y4.headD .junk) (y4.tail.headD .junk)) fun x7 => bindO (vToInt .u64 x7) fun x8 => bindO (vBin .shr x8 (.lit (.int .u64 1))) fun x9 => bindO (vToInt .i64 x9) fun x10 => bindO (vIdx 2 a0 x10) fun x11 => bindO (vLoad s5 x11 2 true) fun x12 => bindO (vIdx 2 a0 a1) fun x13 => bindO (vLoad s5 x13 2 true) fun x14 => hcall Tryz.prog a4 [x12, x14] s5 (fun r15 s16 => bindO (vBin .lss r15 (.lit (.int .i64 0))) fun x17 => hcond x17 (bindO (vBin .add x10 (.lit (.int .i64 1))) fun x18 => K3 [x18, (y4.tail.headD .junk)] s16) (K3 [(y4.headD .junk), x10] s16))) (HLoop (fun y20 s21 K19 => bindO (vBin .sub (y4.headD .junk) (.lit (.int .i64 1))) fun x22 => bindO (vBin .lss (y20.headD .junk) x22) fun x23 => hcond x23 (bindO (vBin .add (y20.headD .junk) (.lit (.int .i64 1))) fun x24 => bindO (vBin .add (y20.headD .junk) (.lit (.int .i64 1))) fun x25 => bindO (vIdx 2 a0 x25) fun x26 => bindO (vLoad s21 x26 2 true) fun x27 => bindO (vIdx 2 a0 (y20.headD .junk)) fun x28 => bindO (vLoad s21 x28 2 true) fun x29 => bindO (vIdx 2 a0 (y20.headD .junk)) fun x30 => hStore s21 x30 x27 2 (fun s31 => bindO (vIdx 2 a0 x24) fun x32 => hStore s31 x32 x29 2 (fun s33 => bindO (vBin .add (y20.headD .junk) (.lit (.int .i64 1))) fun x34 => K19 [x34] s33))) (Q (.tup []) s21)) [a1] s5)) [a2, a3] s) (bindO (vBin .sub a3 a2) fun x35 => bindO (vCmp (Tryz.prog.underlying 3) .eql x35 (.lit (.int .i64 1))) fun x36 => hcond x36 (HLoop (fun y38 s39 K37 => bindO (vBin .lss (y38.headD .junk) (y38.tail.headD .junk)) fun x40 => hcond x40 (bindO (vBin .add (y38.headD .junk) (y38.tail.headD .junk)) fun x41 => bindO (vToInt .u64 x41) fun x42 => bindO (vBin .shr x42 (.lit (.int .u64 1))) fun x43 => bindO (vToInt .i64 x43) fun x44 => bindO (vIdx 2 a0 a2) fun x45 => bindO (vLoad s39 x45 2 true) fun x46 => bindO (vIdx 2 a0 x44) fun x47 => bindO (vLoad s39 x47 2 true) fun x48 => hcall Tryz.prog a4 [x46, x48] s39 (fun r49 s50 => bindO (vBin .lss r49 (.lit (.int .i64 0))) fun x51 => bindO (vUn .not x51) fun x52 => hcond x52 (bindO (vBin .add x44 (.lit (.int .i64 1))) fun x53 => K37 [x53, (y38.tail.headD .junk)] s50) (K37 [(y38.headD .junk), x44] s50))) (HLoop (fun y55 s56 K54 => bindO (vBin .gtr (y55.headD .junk) (y38.headD .junk)) fun x57 => hcond x57 (bindO (vBin .sub (y55.headD .junk) (.lit (.int .i64 1))) fun x58 => bindO (vBin .sub (y55.headD .junk) (.lit (.int .i64 1))) fun x59 => bindO (vIdx 2 a0 x59) fun x60 => bindO (vLoad s56 x60 2 true) fun x61 => bindO (vIdx 2 a0 (y55.headD .junk)) fun x62 => bindO (vLoad s56 x62 2 true) fun x63 => bindO (vIdx 2 a0 (y55.headD .junk)) fun x64 => hStore s56 x64 x61 2 (fun s65 => bindO (vIdx 2 a0 x58) fun x66 => hStore s65 x66 x63 2 (fun s67 => bindO (vBin .sub (y55.headD .junk) (.lit (.int .i64 1))) fun x68 => K54 [x68] s67))) (Q (.tup []) s56)) [a2] s39)) [a1, a2] s) (bindO (vBin .add a1 a3) fun x69 => bindO (vToInt .u64 x69) fun x70 => bindO (vBin .shr x70 (.lit (.int .u64 1))) fun x71 => bindO (vToInt .i64 x71) fun x72 => bindO (vBin .add x72 a2) fun x73 => Join (fun K74 => bindO (vBin .gtr a2 x72) fun x77 => hcond x77 (bindO (vBin .sub x73 a3) fun x78 => K74 [x78, x72] s) (K74 [a1, a2] s)) (fun y75 s76 => bindO (vBin .sub x73 (.lit (.int .i64 1))) fun x79 => HLoop (fun y81 s82 K80 => bindO (vBin .lss (y81.headD .junk) (y81.tail.headD .junk)) fun x83 => hcond x83 (bindO (vBin .add (y81.headD .junk) (y81.tail.headD .junk)) fun x84 => bindO (vToInt .u64 x84) fun x85 => bindO (vBin .shr x85 (.lit (.int .u64 1))) fun x86 => bindO (vToInt .i64 x86) fun x87 => bindO (vBin .sub x79 x87) fun x88 => bindO (vIdx 2 a0 x88) fun x89 => bindO (vLoad s82 x89 2 true) fun x90 => bindO (vIdx 2 a0 x87) fun x91 => bindO (vLoad s82 x91 2 true) fun x92 => hcall Tryz.prog a4 [x90, x92] s82 (fun r93 s94 => bindO (vBin .lss r93 (.lit (.int .i64 0))) fun x95 => bindO (vUn .not x95) fun x96 => hcond x96 (bindO (vBin .add x87 (.lit (.int .i64 1))) fun x97 => K80 [x97, (y81.tail.headD .junk)] s94) (K80 [(y81.headD .junk), x87] s94))) (bindO (vBin .sub x73 (y81.headD .junk)) fun x98 => Join (fun K99 => Join (fun K102 => bindO (vBin .lss (y81.headD .junk) a2) fun x105 => hcond x105 (bindO (vBin .lss a2 x98) fun x106 => K102 [x106] s82) (K102 [(.lit (.bool false))] s82)) (fun y103 s104 => hcond (y103.headD .junk) (HC Tryz.prog 124 [a0, (y81.headD .junk), a2, x98, a4] s104 (fun r107 s108 => K99 [] s108)) (K99 [] s104))) (fun y100 s101 => Join (fun K109 => Join (fun K112 => bindO (vBin .lss a1 (y81.headD .junk)) fun x115 => hcond x115 (bindO (vBin .lss (y81.headD .junk) x72) fun x116 => K112 [x116] s101) (K112 [(.lit (.bool false))] s101)) (fun y113 s114 => hcond (y113.headD .junk) (HC Tryz.prog 121 [a0, a1, (y81.headD .junk), x72, a4] s114 (fun r117 s118 => K109 [] s118)) (K109 [] s114))) (fun y110 s111 => Join (fun K119 => bindO (vBin .lss x72 x98) fun x122 => hcond x122 (bindO (vBin .lss x98 a3) fun x123 => K119 [x123] s111) (K119 [(.lit (.bool false))] s111)) (fun y120 s121 => hcond (y120.headD .junk) (HC Tryz.prog 121 [a0, x72, x98, a3, a4] s121 (fun r124 s125 => Q (.tup []) s125)) (Q (.tup []) s121)))))) [(y75.headD .junk), (y75.tail.headD .junk)] s76)))
theorem c121_eq (a0 a1 a2 a3 a4 : HV) (s : HS) (Q : HV → HS → Prop) : (match Tryz.f121.body with | some c => hwp Tryz.prog (fun p => if p = 63 then some [20, 21] else if p = 172 then some [10, 11] else if p = 428 then some [14, 15] else if p = 698 then some [13] else if p = 1020 then some [20, 21] else if p = 1023 then some [] else if p = 1722 then some [17] else if p = 2046 then some [185] else if p = 2047 then some [] else if p = 4094 then some [199] else if p = 4095 then some [213] else none) false 1 c (hretQ Tryz.prog Tryz.f121.results.toList Q) (([a0, a1, a2, a3, a4] : List HV) ++ List.replicate (Tryz.f121.ntmps - 5) (.lit undef)) s | none => False) = c121 a0 a1 a2 a3 a4 s Q := by kernel_rfl
theorem HC121 {a0 a1 a2 a3 a4 : HV} {s : HS} {Q : HV → HS → Prop} (h : c121 a0 a1 a2 a3 a4 s Q) : HC Tryz.prog 121 [a0, a1, a2, a3, a4] s Q := HC_by Tryz.func121 (by have := c121_eq a0 a1 a2 a3 a4 s Q; exact this.mpr h)
/-- slices.stableCmpFunc[cordwain/assign.Topic] -/
def c115 (a0 a1 a2 : HV) (s : HS) (Q : HV → HS → Prop) : Prop :=
  HLoop (fun y2 s3 K1 => bindO (vBin .leq (y2.tail.headD .junk) a1) fun x4 => hcond x4 (HC Tryz.prog 120 [a0, (y2.headD .junk), (y2.tail.headD .junk), a2] s3 (fun r5 s6 => bindO (vBin .add (y2.tail.headD .junk) (.lit (.int .i64 20))) fun x7 => K1 [(y2.tail.headD .junk), x7] s6)) (HC Tryz.prog 120 [a0, (y2.headD .junk), a1, a2] s3 (fun r8 s9 => HLoop (fun y11 s12 K10 => bindO (vBin .lss (y11.headD .junk) a1) fun x13 => hcond x13 (bindO (vBin .mul (.lit (.int .i64 2)) (y11.headD .junk)) fun x14 => HLoop (fun y16 s17 K15 => bindO (vBin .leq (y16.tail.headD .junk) a1) fun x18 => hcond x18 (bindO (vBin .add (y16.headD .junk) (y11.headD .junk)) fun x19 => HC Tryz.prog 121 [a0, (y16.headD .junk), x19, (y16.tail.headD .junk), a2] s17 (fun r20 s21 => bindO (vBin .mul (.lit (.int .i64 2)) (y11.headD .junk)) fun x22 => bindO (vBin .add (y16.tail.headD .junk) x22) fun x23 => K15 [(y16.tail.headD .junk), x23] s21)) (Join (fun K24 => bindO (vBin .add (y16.headD .junk) (y11.headD .junk)) fun x27 => bindO (vBin .lss x27 a1) fun x28 => hcond x28 (HC Tryz.prog 121 [a0, (y16.headD .junk), x27, a1, a2] s17 (fun r29 s30 => K24 [] s30)) (K24 [] s17)) (fun y25 s26 => bindO (vBin .mul (y11.headD .junk) (.lit (.int .i64 2))) fun x31 => K10 [x31] s26))) [(.lit (.int .i64 0)), x14] s12) (Q (.tup []) s12)) [(.lit (.int .i64 20))] s9))) [(.lit (.int .i64 0)), (.lit (.int .i64 20))] s
theorem c115_eq (a0 a1 a2 : HV) (s : HS) (Q : HV → HS → Prop) : (match Tryz.f115.body with | some c => hwp Tryz.prog (fun p => if p = 28 then some [7, 8] else if p = 62 then some [6] else if p = 1995 then some [] else if p = 3988 then some [7, 8] else none) false 1 c (hretQ Tryz.prog Tryz.f115.results.toList Q) (([a0, a1, a2] : List HV) ++ List.replicate (Tryz.f115.ntmps - 3) (.lit undef)) s | none => False) = c115 a0 a1 a2 s Q := by kernel_rfl
theorem HC115 {a0 a1 a2 : HV} {s : HS} {Q : HV → HS → Prop} (h : c115 a0 a1 a2 s Q) : HC Tryz.prog 115 [a0, a1, a2] s Q := HC_by Tryz.func115 (by have := c115_eq a0 a1 a2 s Q; exact this.mpr h)
/-- slices.SortStableFunc[[]cordwain/assign.Topic,cordwain/assign.Topic] -/
def c101 (a0 a1 : HV) (s : HS) (Q : HV → HS → Prop) : Prop :=
  bindO (vLenT (Tryz.prog.underlying 40) s a0) fun x1 => HC Tryz.prog 115 [a0, x1, a1] s (fun r2 s3 => Q (.tup []) s3)
theorem c101_eq (a0 a1 : HV) (s : HS) (Q : HV → HS → Prop) : (match Tryz.f101.body with | some c => hwp Tryz.prog (fun p => none) false 1 c (hretQ Tryz.prog Tryz.f101.results.toList Q) (([a0, a1] : List HV) ++ List.replicate (Tryz.f101.ntmps - 2) (.lit undef)) s | none => False) = c101 a0 a1 s Q := by kernel_rfl
theorem HC101 {a0 a1 : HV} {s : HS} {Q : HV → HS → Prop} (h : c101 a0 a1 s Q) : HC Tryz.prog 101 [a0, a1] s Q := HC_by Tryz.func101 (by have := c101_eq a0 a1 s Q; exact this.mpr h)
/-- cordwain/assign.sorted[cordwain/assign.Topic]$1 -/
def c114 (a0 a1 a2 : HV) (s : HS) (Q : HV → HS → Prop) : Prop :=
  hBox s a0 (fun x1 s2 => hBox s2 a1 (fun x3 s4 => bindO (vLoad s4 a2 1 false) fun x5 => bindO (vLoad s4 x1 2 true) fun x6 => bindO (vLoad s4 a2 1 false) fun x7 => bindO (vLoad s4 x3 2 true) fun x8 => hcall Tryz.prog x5 [x6] s4 (fun r9 s10 => (vLoad s10 x3 2 true = vLoad s4 x3 2 true ∧ (vLoad s10 a2 1 false = vLoad s4 a2 1 false ∧ hcall Tryz.prog x7 [x8] s10 (fun r11 s12 => HC Tryz.prog 103 [r9, r11] s12 (fun r13 s14 => Q r13 s14)))))))
theorem c114_eq (a0 a1 a2 : HV) (s : HS) (Q : HV → HS → Prop) : (match Tryz.f114.body with | some c => hwp Tryz.prog (fun p => none) false 1 c (hretQ Tryz.prog Tryz.f114.results.toList Q) (([a0, a1, a2] : List HV) ++ List.replicate (Tryz.f114.ntmps - 3) (.lit undef)) s | none => False) = c114 a0 a1 a2 s Q := by kernel_rfl
theorem HC114 {a0 a1 a2 : HV} {s : HS} {Q : HV → HS → Prop} (h : c114 a0 a1 a2 s Q) : HC Tryz.prog 114 [a0, a1, a2] s Q := HC_by Tryz.func114 (by have := c114_eq a0 a1 a2 s Q; exact this.mpr h)
/-- cordwain/assign.open$3 -/
def c99 (a0 : HV) (s : HS) (Q : HV → HS → Prop) : Prop :=
  hBox s a0 (fun x1 s2 => bindO (vField 0 x1) fun x3 => bindO (vLoad s2 x3 1 false) fun x4 => Q x4 s2)
theorem c99_eq (a0 : HV) (s : HS) (Q : HV → HS → Prop) : (match Tryz.f99.body with | some c => hwp Tryz.prog (fun p => none) false 1 c (hretQ Tryz.prog Tryz.f99.results.toList Q) (([a0] : List HV) ++ List.replicate (Tryz.f99.ntmps - 1) (.lit undef)) s | none => False) = c99 a0 s Q := by kernel_rfl
theorem HC99 {a0 : HV} {s : HS} {Q : HV → HS → Prop} (h : c99 a0 s Q) : HC Tryz.prog 99 [a0] s Q := HC_by Tryz.func99 (by have := c99_eq a0 s Q; exact this.mpr h)
/-- cordwain/assign.sorted[cordwain/assign.Topic] -/
def c98 (a0 a1 : HV) (s : HS) (Q : HV → HS → Prop) : Prop :=
  hBox s a1 (fun x1 s2 => HC Tryz.prog 58 [a0] s2 (fun r3 s4 => HC Tryz.prog 101 [r3, (.func (.func 114) [x1])] s4 (fun r5 s6 => HLoop (fun y8 s9 K7 => bindO (vLenT (Tryz.prog.underlying 40) s9 r3) fun x10 => bindO (vBin .lss (y8.headD .junk) x10) fun x11 => hcond x11 (bindO (vLoad s9 x1 1 false) fun x12 => bindO (vIdx 2 r3 (y8.headD .junk)) fun x13 => bindO (vLoad s9 x13 2 true) fun x14 => bindO (vLoad s9 x1 1 false) fun x15 => bindO (vBin .sub (y8.headD .junk) (.lit (.int .i64 1))) fun x16 => bindO (vIdx 2 r3 x16) fun x17 => bindO (vLoad s9 x17 2 true) fun x18 => hcall Tryz.prog x12 [x14] s9 (fun r19 s20 => (vLoad s20 x17 2 true = vLoad s9 x17 2 true ∧ (vLoad s20 x1 1 false = vLoad s9 x1 1 false ∧ hcall Tryz.prog x15 [x18] s20 (fun r21 s22 => bindO (vCmp (Tryz.prog.underlying 9) .eql r19 r21) fun x23 => hcond x23 (Q (.tup [(.lit (.slice none 0 0)), (.lit (.bool false))]) s22) (bindO (vBin .add (y8.headD .junk) (.lit (.int .i64 1))) fun x24 => K7 [x24] s22)))))) (Q (.tup [r3, (.lit (.bool true))]) s9)) [(.lit (.int .i64 1))] s6)))
theorem c98_eq (a0 a1 : HV) (s : HS) (Q : HV → HS → Prop) : (match Tryz.f98.body with | some c => hwp Tryz.prog (fun p => if p = 122 then some [7] else none) false 1 c (hretQ Tryz.prog Tryz.f98.results.toList Q) (([a0, a1] : List HV) ++ List.replicate (Tryz.f98.ntmps - 2) (.lit undef)) s | none => False) = c98 a0 a1 s Q := by kernel_rfl
theorem HC98 {a0 a1 : HV} {s : HS} {Q : HV → HS → Prop} (h : c98 a0 a1 s Q) : HC Tryz.prog 98 [a0, a1] s Q := HC_by Tryz.func98 (by have := c98_eq a0 a1 s Q; exact this.mpr h)
/-- cordwain/assign.open -/
def c80 (a0 a1 : HV) (s : HS) (Q : HV → HS → Prop) : Prop :=
  hNew s (.cells [.lit (.slice none 0 0), .lit (.slice none 0 0), .lit (.slice none 0 0)]) (fun id => .ptr id 0) (fun x1 s2 => HC Tryz.prog 94 [a1, (.func (.func 95) [])] s2 (fun r3 s4 => hcond r3 (bindO (vLoad s4 x1 3 true) fun x5 => hStore s4 x1 x5 3 (fun s6 => bindO (vLoad s6 x1 3 true) fun x7 => Q (.tup [x7, (.lit (.bool false))]) s6)) (HC Tryz.prog 96 [a0, (.func (.func 97) [])] s4 (fun r8 s9 => bindO (vExtract r8 0) fun x10 => bindO (vExtract r8 1) fun x11 => HC Tryz.prog 98 [a1, (.func (.func 99) [])] s9 (fun r12 s13 => bindO (vExtract r12 0) fun x14 => bindO (vExtract r12 1) fun x15 => bindO (vMk [(0, 1), (1, 1), (2, 1)] [.lit (.slice none 0 0), .lit (.slice none 0 0), .lit (.slice none 0 0)] [(0, x10), (1, x14)]) fun x16 => hStore s13 x1 x16 3 (fun s17 => bindO (vLenT (Tryz.prog.underlying 102) s17 x10) fun x18 => HLoop (fun y20 s21 K19 => bindO (vBin .lss (y20.headD .junk) x18) fun x22 => hcond x22 (bindO (vIdx 2 x10 (y20.headD .junk)) fun x23 => bindO (vLoad s21 x23 2 true) fun x24 => hNew s21 (.cells [.lit (.string .empty), .lit (.slice none 0 0)]) (fun id => .ptr id 0) (fun x25 s26 => hStore s26 x25 x24 2 (fun s27 => bindO (vField 2 x1) fun x28 => bindO (vLoad s27 x28 1 false) fun x29 => bindO (vField 0 x25) fun x30 => bindO (vLoad s27 x30 1 false) fun x31 => bindO (vMk [(0, 1), (1, 1)] [.lit (.string .empty), .lit (.slice none 0 0)] [(0, x31)]) fun x32 => hBS s27 2 1 [.lit (.string .empty), .lit (.slice none 0 0)] [(0, x32)] (fun x33 s34 => hAppend s34 2 40 x29 x33 (fun x35 s36 => bindO (vField 2 x1) fun x37 => hStore s36 x37 x35 1 (fun s38 => bindO (vBin .add (y20.headD .junk) (.lit (.int .i64 1))) fun x39 => K19 [x39] s38)))))) (bindO (vLoad s21 x1 3 true) fun x40 => hcond x11 (hStore s21 x1 x40 3 (fun s41 => bindO (vLoad s41 x1 3 true) fun x42 => Q (.tup [x42, x15]) s41)) (hStore s21 x1 x40 3 (fun s43 => bindO (vLoad s43 x1 3 true) fun x44 => Q (.tup [x44, (.lit (.bool false))]) s43)))) [(.lit (.int .i64 0))] s17))))))
theorem c80_eq (a0 a1 : HV) (s : HS) (Q : HV → HS → Prop) : (match Tryz.f80.body with | some c => hwp Tryz.prog (fun p => if p = 506 then some [29] else none) false 1 c (hretQ Tryz.prog Tryz.f80.results.toList Q) (([a0, a1] : List HV) ++ List.replicate (Tryz.f80.ntmps - 2) (.lit undef)) s | none => False) = c80 a0 a1 s Q := by kernel_rfl
theorem HC80 {a0 a1 : HV} {s : HS} {Q : HV → HS → Prop} (h : c80 a0 a1 s Q) : HC Tryz.prog 80 [a0, a1] s Q := HC_by Tryz.func80 (by have := c80_eq a0 a1 s Q; exact this.mpr h)
/-- cordwain/assign.Slots -/
def c81 (a0 : HV) (s : HS) (Q : HV → HS → Prop) : Prop :=
  hBox s a0 (fun x1 s2 => Q (.func (.func 100) [x1]) s2)
theorem c81_eq (a0 : HV) (s : HS) (Q : HV → HS → Prop) : (match Tryz.f81.body with | some c => hwp Tryz.prog (fun p => none) false 1 c (hretQ Tryz.prog Tryz.f81.results.toList Q) (([a0] : List HV) ++ List.replicate (Tryz.f81.ntmps - 1) (.lit undef)) s | none => False) = c81 a0 s Q := by kernel_rfl
theorem HC81 {a0 : HV} {s : HS} {Q : HV → HS → Prop} (h : c81 a0 s Q) : HC Tryz.prog 81 [a0] s Q := HC_by Tryz.func81 (by have := c81_eq a0 s Q; exact this.mpr h)
/-- slices.Index[[]string,string] -/
def c104 (a0 a1 : HV) (s : HS) (Q : HV → HS → Prop) : Prop :=
  bindO (vLenT (Tryz.prog.underlying 33) s a0) fun x1 => HLoop (fun y3 s4 K2 => bindO (vBin .lss (y3.headD .junk) x1) fun x5 => hcond x5 (bindO (vIdx 1 a0 (y3.headD .junk)) fun x6 => bindO (vLoad s4 x6 1 false) fun x7 => bindO (vCmp (Tryz.prog.underlying 9) .eql a1 x7) fun x8 => hcond x8 (Q (y3.headD .junk) s4) (bindO (vBin .add (y3.headD .junk) (.lit (.int .i64 1))) fun x9 => K2 [x9] s4)) (Q (.lit (.int .i64 (-1))) s4)) [(.lit (.int .i64 0))] s
theorem c104_eq (a0 a1 : HV) (s : HS) (Q : HV → HS → Prop) : (match Tryz.f104.body with | some c => hwp Tryz.prog (fun p => if p = 26 then some [8] else none) false 1 c (hretQ Tryz.prog Tryz.f104.results.toList Q) (([a0, a1] : List HV) ++ List.replicate (Tryz.f104.ntmps - 2) (.lit undef)) s | none => False) = c104 a0 a1 s Q := by kernel_rfl
theorem HC104 {a0 a1 : HV} {s : HS} {Q : HV → HS → Prop} (h : c104 a0 a1 s Q) : HC Tryz.prog 104 [a0, a1] s Q := HC_by Tryz.func104 (by have := c104_eq a0 a1 s Q; exact this.mpr h)
/-- slices.Contains[[]string,string] -/
def c82 (a0 a1 : HV) (s : HS) (Q : HV → HS → Prop) : Prop :=
  HC Tryz.prog 104 [a0, a1] s (fun r1 s2 => bindO (vBin .geq r1 (.lit (.int .i64 0))) fun x3 => Q x3 s2)
theorem c82_eq (a0 a1 : HV) (s : HS) (Q : HV → HS → Prop) : (match Tryz.f82.body with | some c => hwp Tryz.prog (fun p => none) false 1 c (hretQ Tryz.prog Tryz.f82.results.toList Q) (([a0, a1] : List HV) ++ List.replicate (Tryz.f82.ntmps - 2) (.lit undef)) s | none => False) = c82 a0 a1 s Q := by kernel_rfl
theorem HC82 {a0 a1 : HV} {s : HS} {Q : HV → HS → Prop} (h : c82 a0 a1 s Q) : HC Tryz.prog 82 [a0, a1] s Q := HC_by Tryz.func82 (by have := c82_eq a0 a1 s Q; exact this.mpr h)
/-- (cordwain/assign.hall).gives -/
def c83 (a0 a1 a2 : HV) (s : HS) (Q : HV → HS → Prop) : Prop :=
  hBox s a0 (fun x1 s2 => hBox s2 a2 (fun x3 s4 => bindO (vField 2 x1) fun x5 => bindO (vLoad s4 x5 1 false) fun x6 => bindO (vField 2 x1) fun x7 => bindO (vLoad s4 x7 1 false) fun x8 => bindO (vIdx 2 x8 a1) fun x9 => bindO (vField 1 x9) fun x10 => bindO (vLoad s4 x10 1 false) fun x11 => bindO (vLoad s4 x3 2 true) fun x12 => hBS s4 2 1 [.lit (.string .empty), .lit (.int .i64 0)] [(0, x12)] (fun x13 s14 => (vLoad s14 x10 1 false = vLoad s4 x10 1 false ∧ (vLoad s14 x7 1 false = vLoad s4 x7 1 false ∧ (vLoad s14 x5 1 false = vLoad s4 x5 1 false ∧ hAppend s14 2 24 x11 x13 (fun x15 s16 => (vLoad s16 x5 1 false = vLoad s14 x5 1 false ∧ bindO (vIdx 2 x6 a1) fun x17 => bindO (vField 1 x17) fun x18 => hStore s16 x18 x15 1 (fun s19 => Q (.tup []) s19)))))))))
theorem c83_eq (a0 a1 a2 : HV) (s : HS) (Q : HV → HS → Prop) : (match Tryz.f83.body with | some c => hwp Tryz.prog (fun p => none) false 1 c (hretQ Tryz.prog Tryz.f83.results.toList Q) (([a0, a1, a2] : List HV) ++ List.replicate (Tryz.f83.ntmps - 3) (.lit undef)) s | none => False) = c83 a0 a1 a2 s Q := by kernel_rfl
theorem HC83 {a0 a1 a2 : HV} {s : HS} {Q : HV → HS → Prop} (h : c83 a0 a1 a2 s Q) : HC Tryz.prog 83 [a0, a1, a2] s Q := HC_by Tryz.func83 (by have := c83_eq a0 a1 a2 s Q; exact this.mpr h)
/-- cordwain/assign.Round -/
def c68 (a0 a1 : HV) (s : HS) (Q : HV → HS → Prop) : Prop :=
  HC Tryz.prog 80 [a0, a1] s (fun r1 s2 => bindO (vExtract r1 0) fun x3 => bindO (vExtract r1 1) fun x4 => hNew s2 (.cells [.lit (.slice none 0 0), .lit (.slice none 0 0), .lit (.slice none 0 0)]) (fun id => .ptr id 0) (fun x5 s6 => hStore s6 x5 x3 3 (fun s7 => bindO (vUn .not x4) fun x8 => hcond x8 (Q (.tup [(.lit (.slice none 0 0)), (.lit (.int .i64 1))]) s7) (hNew s7 (.cells [.lit (.int .i64 0)]) (fun id => .ptr id 0) (fun x9 s10 => hStore s10 x9 (.lit (.int .i64 0)) 1 (fun s11 => Join (fun K12 => bindO (vField 1 x5) fun x15 => bindO (vLoad s11 x15 1 false) fun x16 => HC Tryz.prog 81 [x16] s11 (fun r17 s18 => HRange Tryz.prog r17 1 [a0, a1, (.lit undef), (.lit undef), (.lit (.slice none 0 0)), (.lit (.int .i64 0)), x5, x4, x9, (.lit undef), (.lit undef), (.lit undef), r1, a0, a1, r1, x3, x4, x4, (.lit (.bool false)), x15, x16, r17, (.lit undef), (.lit undef), (.lit undef), (.lit undef), (.lit undef), (.lit undef), (.lit undef), (.lit undef), (.lit undef), (.lit undef), (.lit undef), (.lit undef), (.lit undef), (.lit undef), (.lit undef), (.lit undef), (.lit undef), (.lit undef), (.lit undef), (.lit undef), (.lit undef), (.lit undef), (.lit undef), (.lit undef), (.lit undef), (.lit undef), (.lit undef), (.lit undef), (.lit undef), (.lit undef), (.lit undef), (.lit undef)] (fun B19 y20 s21 K22 => hNew s21 (.cells [.lit (.string .empty), .lit (.int .i64 0)]) (fun id => .ptr id 0) (fun x23 s24 => hStore s24 x23 (y20.headD .junk) 2 (fun s25 => B19 s25 fun s26 => bindO (vField 0 x5) fun x27 => bindO (vLoad s26 x27 1 false) fun x28 => bindO (vLenT (Tryz.prog.underlying 102) s26 x28) fun x29 => HLoop (fun y31 s32 K30 => bindO (vBin .lss (y31.headD .junk) x29) fun x33 => hcond x33 (bindO (vLoad s32 x9 1 false) fun x34 => bindO (vBin .add x34 (y31.headD .junk)) fun x35 => bindO (vField 0 x5) fun x36 => bindO (vLoad s32 x36 1 false) fun x37 => bindO (vLenT (Tryz.prog.underlying 102) s32 x37) fun x38 => bindO (vBin .rem x35 x38) fun x39 => bindO (vField 0 x5) fun x40 => bindO (vLoad s32 x40 1 false) fun x41 => bindO (vIdx 2 x41 x39) fun x42 => bindO (vField 1 x42) fun x43 => bindO (vLoad s32 x43 1 false) fun x44 => bindO (vField 0 x23) fun x45 => bindO (vLoad s32 x45 1 false) fun x46 => HC Tryz.prog 82 [x44, x46] s32 (fun r47 s48 => hcond r47 (bindO (vLoad s48 x5 3 true) fun x49 => bindO (vLoad s48 x23 2 true) fun x50 => HC Tryz.prog 83 [x49, x39, x50] s48 (fun r51 s52 => bindO (vBin .add x39 (.lit (.int .i64 1))) fun x53 => hStore s52 x9 x53 1 (fun s54 => K22 .normal s54))) (bindO (vBin .add (y31.headD .junk) (.lit (.int .i64 1))) fun x55 => K30 [x55] s48))) (K22 .normal s32)) [(.lit (.int .i64 0))] s26))) s18 (fun s56 => K12 [] s56) (fun s57 => Q (.tup [(.lit (.slice none 0 0)), (.lit (.int .i64 0))]) s57) (fun i59 s58 => if i59 = 0 then K12 [] s58 else False))) (fun y13 s14 => bindO (vField 2 x5) fun x60 => bindO (vLoad s14 x60 1 false) fun x61 => Q (.tup [x61, (.lit (.int .i64 0))]) s14)))))))
theorem c68_eq (a0 a1 : HV) (s : HS) (Q : HV → HS → Prop) : (match Tryz.f68.body with | some c => hwp Tryz.prog (fun p => if p = 111 then some [] else if p = 14250 then some [27] else none) false 1 c (hretQ Tryz.prog Tryz.f68.results.toList Q) (([a0, a1] : List HV) ++ List.replicate (Tryz.f68.ntmps - 2) (.lit undef)) s | none => False) = c68 a0 a1 s Q := by kernel_rfl
theorem HC68 {a0 a1 : HV} {s : HS} {Q : HV → HS → Prop} (h : c68 a0 a1 s Q) : HC Tryz.prog 68 [a0, a1] s Q := HC_by Tryz.func68 (by have := c68_eq a0 a1 s Q; exact this.mpr h)
/-- cordwain/assign.Range -/
def c69 (a0 a1 : HV) (s : HS) (Q : HV → HS → Prop) : Prop :=
  HC Tryz.prog 80 [a0, a1] s (fun r1 s2 => bindO (vExtract r1 0) fun x3 => bindO (vExtract r1 1) fun x4 => hNew s2 (.cells [.lit (.slice none 0 0), .lit (.slice none 0 0), .lit (.slice none 0 0)]) (fun id => .ptr id 0) (fun x5 s6 => hStore s6 x5 x3 3 (fun s7 => bindO (vUn .not x4) fun x8 => hcond x8 (Q (.tup [(.lit (.slice none 0 0)), (.lit (.int .i64 1))]) s7) (bindO (vField 1 x5) fun x9 => bindO (vLoad s7 x9 1 false) fun x10 => bindO (vLenT (Tryz.prog.underlying 40) s7 x10) fun x11 => HLoop (fun y13 s14 K12 => bindO (vBin .lss (y13.headD .junk) x11) fun x15 => hcond x15 (bindO (vIdx 2 x10 (y13.headD .junk)) fun x16 => bindO (vLoad s14 x16 2 true) fun x17 => hNew s14 (.cells [.lit (.string .empty), .lit (.int .i64 0)]) (fun id => .ptr id 0) (fun x18 s19 => hStore s19 x18 x17 2 (fun s20 => bindO (vField 0 x5) fun x21 => bindO (vLoad s20 x21 1 false) fun x22 => bindO (vLenT (Tryz.prog.underlying 102) s20 x22) fun x23 => HLoop (fun y25 s26 K24 => bindO (vBin .lss (y25.tail.headD .junk) x23) fun x27 => hcond x27 (Join (fun K28 => bindO (vIdx 2 x22 (y25.tail.headD .junk)) fun x31 => bindO (vLoad s26 x31 2 true) fun x32 => hNew s26 (.cells [.lit (.string .empty), .lit (.slice none 0 0)]) (fun id => .ptr id 0) (fun x33 s34 => hStore s34 x33 x32 2 (fun s35 => bindO (vField 1 x33) fun x36 => bindO (vLoad s35 x36 1 false) fun x37 => bindO (vField 0 x18) fun x38 => bindO (vLoad s35 x38 1 false) fun x39 => HC Tryz.prog 82 [x37, x39] s35 (fun r40 s41 => hcond r40 (hBS s41 1 1 [.lit (.int .i64 0)] [(0, (y25.tail.headD .junk))] (fun x42 s43 => hAppend s43 1 8 (y25.headD .junk) x42 (fun x44 s45 => K28 [x44] s45))) (K28 [(y25.headD .junk)] s41))))) (fun y29 s30 => bindO (vBin .add (y25.tail.headD .junk) (.lit (.int .i64 1))) fun x46 => K24 [(y29.headD .junk), x46] s30)) (bindO (vLenT (Tryz.prog.underlying 75) s26 (y25.headD .junk)) fun x47 => HLoop (fun y49 s50 K48 => bindO (vBin .lss (y49.tail.headD .junk) x47) fun x51 => hcond x51 (bindO (vIdx 1 (y25.headD .junk) (y49.tail.headD .junk)) fun x52 => bindO (vLoad s50 x52 1 false) fun x53 => bindO (vField 1 x18) fun x54 => bindO (vLoad s50 x54 1 false) fun x55 => bindO (vLenT (Tryz.prog.underlying 75) s50 (y25.headD .junk)) fun x56 => bindO (vBin .quo x55 x56) fun x57 => Join (fun K58 => bindO (vField 1 x18) fun x61 => bindO (vLoad s50 x61 1 false) fun x62 => bindO (vLenT (Tryz.prog.underlying 75) s50 (y25.headD .junk)) fun x63 => bindO (vBin .rem x62 x63) fun x64 => bindO (vBin .lss (y49.tail.headD .junk) x64) fun x65 => hcond x65 (bindO (vBin .add x57 (.lit (.int .i64 1))) fun x66 => K58 [x66] s50) (K58 [x57] s50)) (fun y59 s60 => HLoop (fun y68 s69 K67 => bindO (vBin .lss (y68.tail.headD .junk) (y59.headD .junk)) fun x70 => hcond x70 (bindO (vLoad s69 x5 3 true) fun x71 => bindO (vField 0 x18) fun x72 => bindO (vLoad s69 x72 1 false) fun x73 => bindO (vMk [(0, 1), (1, 1)] [.lit (.string .empty), .lit (.int .i64 0)] [(0, x73), (1, (y68.headD .junk))]) fun x74 => HC Tryz.prog 83 [x71, x53, x74] s69 (fun r75 s76 => bindO (vBin .add (y68.headD .junk) (.lit (.int .i64 1))) fun x77 => bindO (vBin .add (y68.tail.headD .junk) (.lit (.int .i64 1))) fun x78 => K67 [x77, x78] s76)) (bindO (vBin .add (y49.tail.headD .junk) (.lit (.int .i64 1))) fun x79 => K48 [(y68.headD .junk), x79] s69)) [(y49.headD .junk), (.lit (.int .i64 0))] s60)) (bindO (vBin .add (y13.headD .junk) (.lit (.int .i64 1))) fun x80 => K12 [x80] s50)) [(.lit (.int .i64 0)), (.lit (.int .i64 0))] s26)) [(.lit (.slice none 0 0)), (.lit (.int .i64 0))] s20))) (bindO (vField 2 x5) fun x81 => bindO (vLoad s14 x81 1 false) fun x82 => Q (.tup [x82, (.lit (.int .i64 0))]) s14)) [(.lit (.int .i64 0))] s7))))
theorem c69_eq (a0 a1 : HV) (s : HS) (Q : HV → HS → Prop) : (match Tryz.f69.body with | some c => hwp Tryz.prog (fun p => if p = 122 then some [28] else if p = 125338 then some [10, 35] else if p = 250686 then some [13, 52] else if p = 1002707 then some [10] else if p = 32087859 then some [16] else if p = 256702878 then some [13, 72] else none) false 1 c (hretQ Tryz.prog Tryz.f69.results.toList Q) (([a0, a1] : List HV) ++ List.replicate (Tryz.f69.ntmps - 2) (.lit undef)) s | none => False) = c69 a0 a1 s Q := by kernel_rfl
theorem HC69 {a0 a1 : HV} {s : HS} {Q : HV → HS → Prop} (h : c69 a0 a1 s Q) : HC Tryz.prog 69 [a0, a1] s Q := HC_by Tryz.func69 (by have := c69_eq a0 a1 s Q; exact this.mpr h)
/-- (*cordwain/group.Group).forms -/
def c40 (a0 : HV) (s : HS) (Q : HV → HS → Prop) : Prop :=
  bindO (vNil a0) fun x1 => bindO (vField 3 x1) fun x2 => bindO (vLoad s x2 1 false) fun x3 => bindO (vCmp (Tryz.prog.underlying 3) .neq x3 (.lit (.int .i64 2))) fun x4 => hcond x4 (Q (.tup []) s) (Join (fun K5 => HC Tryz.prog 42 [a0, (.func (.func 65) [])] s (fun r8 s9 => bindO (vUn .not r8) fun x10 => hcond x10 (HC Tryz.prog 66 [a0] s9 (fun r11 s12 => bindO (vUn .not r11) fun x13 => K5 [x13] s12)) (K5 [(.lit (.bool false))] s9))) (fun y6 s7 => hcond (y6.headD .junk) (Q (.tup []) s7) (HC Tryz.prog 55 [a0, (.func (.func 67) [])] s7 (fun r14 s15 => bindO (vNil a0) fun x16 => bindO (vField 9 x16) fun x17 => bindO (vLoad s15 x17 1 false) fun x18 => bindO (vLenT (Tryz.prog.underlying 51) s15 x18) fun x19 => bindO (vCmp (Tryz.prog.underlying 3) .eql x19 (.lit (.int .i64 0))) fun x20 => hcond x20 (HC Tryz.prog 44 [a0, (.lit (.int .i64 1))] s15 (fun r21 s22 => Q (.tup []) s22)) (bindO (vNil a0) fun x23 => bindO (vField 4 x23) fun x24 => bindO (vLoad s15 x24 1 false) fun x25 => bindO (vBin .add x25 (.lit (.int .i64 1))) fun x26 => bindO (vNil a0) fun x27 => bindO (vField 4 x27) fun x28 => hStore s15 x28 x26 1 (fun s29 => HC Tryz.prog 44 [a0, (.lit (.int .i64 3))] s29 (fun r30 s31 => bindO (vNil a0) fun x32 => bindO (vField 9 x32) fun x33 => bindO (vLoad s31 x33 1 false) fun x34 => bindO (vLenT (Tryz.prog.underlying 51) s31 x34) fun x35 => HLoop (fun y37 s38 K36 => bindO (vBin .lss (y37.tail.headD .junk) x35) fun x39 => hcond x39 (bindO (vIdx 1 x34 (y37.tail.headD .junk)) fun x40 => bindO (vLoad s38 x40 1 false) fun x41 => bindO (vNil x41) fun x42 => bindO (vField 4 x42) fun x43 => hStore s38 x43 (.lit (.bool false)) 1 (fun s44 => bindO (vNil x41) fun x45 => bindO (vField 0 x45) fun x46 => bindO (vLoad s44 x46 1 false) fun x47 => bindO (vNil x41) fun x48 => bindO (vField 1 x48) fun x49 => bindO (vLoad s44 x49 1 false) fun x50 => bindO (vMk [(0, 1), (1, 1)] [.lit (.string .empty), .lit (.slice none 0 0)] [(0, x47), (1, x50)]) fun x51 => hBS s44 2 1 [.lit (.string .empty), .lit (.slice none 0 0)] [(0, x51)] (fun x52 s53 => hAppend s53 2 40 (y37.headD .junk) x52 (fun x54 s55 => bindO (vBin .add (y37.tail.headD .junk) (.lit (.int .i64 1))) fun x56 => K36 [x54, x56] s55)))) (bindO (vNil a0) fun x57 => bindO (vField 2 x57) fun x58 => bindO (vLoad s38 x58 1 false) fun x59 => hcond x59 (bindO (vNil a0) fun x60 => bindO (vField 8 x60) fun x61 => bindO (vLoad s38 x61 1 false) fun x62 => HC Tryz.prog 68 [(y37.headD .junk), x62] s38 (fun r63 s64 => bindO (vExtract r63 0) fun x65 => bindO (vExtract r63 1) fun x66 => bindO (vNil a0) fun x67 => bindO (vField 10 x67) fun x68 => hStore s64 x68 x65 1 (fun s69 => Q (.tup []) s69))) (bindO (vNil a0) fun x70 => bindO (vField 8 x70) fun x71 => bindO (vLoad s38 x71 1 false) fun x72 => HC Tryz.prog 69 [(y37.headD .junk), x72] s38 (fun r73 s74 => bindO (vExtract r73 0) fun x75 => bindO (vExtract r73 1) fun x76 => bindO (vNil a0) fun x77 => bindO (vField 10 x77) fun x78 => hStore s74 x78 x75 1 (fun s79 => Q (.tup []) s79))))) [(.lit (.slice none 0 0)), (.lit (.int .i64 0))] s31)))))))
theorem c40_eq (a0 : HV) (s : HS) (Q : HV → HS → Prop) : (match Tryz.f40.body with | some c => hwp Tryz.prog (fun p => if p = 14 then some [19] else if p = 4090 then some [3, 44] else none) false 1 c (hretQ Tryz.prog Tryz.f40.results.toList Q) (([a0] : List HV) ++ List.replicate (Tryz.f40.ntmps - 1) (.lit undef)) s | none => False) = c40 a0 s Q := by kernel_rfl
theorem HC40 {a0 : HV} {s : HS} {Q : HV → HS → Prop} (h : c40 a0 s Q) : HC Tryz.prog 40 [a0] s Q := HC_by Tryz.func40 (by have := c40_eq a0 s Q; exact this.mpr h)
/-- (*cordwain/group.Group).goes$1 -/
def c77 (a0 a1 : HV) (s : HS) (Q : HV → HS → Prop) : Prop :=
  bindO (vLoad s a1 1 false) fun x1 => bindO (vNil x1) fun x2 => bindO (vField 6 x2) fun x3 => bindO (vLoad s x3 1 false) fun x4 => bindO (vNil a0) fun x5 => bindO (vField 2 x5) fun x6 => bindO (vLoad s x6 1 false) fun x7 => bindO (vBin .sub x4 x7) fun x8 => bindO (vLoad s a1 1 false) fun x9 => bindO (vNil x9) fun x10 => bindO (vField 0 x10) fun x11 => bindO (vLoad s x11 1 false) fun x12 => bindO (vBin .gtr x8 x12) fun x13 => Q x13 s
theorem c77_eq (a0 a1 : HV) (s : HS) (Q : HV → HS → Prop) : (match Tryz.f77.body with | some c => hwp Tryz.prog (fun p => none) false 1 c (hretQ Tryz.prog Tryz.f77.results.toList Q) (([a0, a1] : List HV) ++ List.replicate (Tryz.f77.ntmps - 2) (.lit undef)) s | none => False) = c77 a0 a1 s Q := by kernel_rfl
theorem HC77 {a0 a1 : HV} {s : HS} {Q : HV → HS → Prop} (h : c77 a0 a1 s Q) : HC Tryz.prog 77 [a0, a1] s Q := HC_by Tryz.func77 (by have := c77_eq a0 a1 s Q; exact this.mpr h)
/-- (*cordwain/group.Group).goes$2 -/
def c78 (a0 : HV) (s : HS) (Q : HV → HS → Prop) : Prop :=
  bindO (vNil a0) fun x1 => bindO (vField 4 x1) fun x2 => bindO (vLoad s x2 1 false) fun x3 => bindO (vUn .not x3) fun x4 => Q x4 s
theorem c78_eq (a0 : HV) (s : HS) (Q : HV → HS → Prop) : (match Tryz.f78.body with | some c => hwp Tryz.prog (fun p => none) false 1 c (hretQ Tryz.prog Tryz.f78.results.toList Q) (([a0] : List HV) ++ List.replicate (Tryz.f78.ntmps - 1) (.lit undef)) s | none => False) = c78 a0 s Q := by kernel_rfl
theorem HC78 {a0 : HV} {s : HS} {Q : HV → HS → Prop} (h : c78 a0 s Q) : HC Tryz.prog 78 [a0] s Q := HC_by Tryz.func78 (by have := c78_eq a0 s Q; exact this.mpr h)
/-- (*cordwain/group.Group).goes -/
def c59 (a0 a1 : HV) (s : HS) (Q : HV → HS → Prop) : Prop :=
  hBox s a0 (fun x1 s2 => bindO (vLoad s2 x1 1 false) fun x3 => bindO (vLoad s2 x1 1 false) fun x4 => bindO (vNil x4) fun x5 => bindO (vField 6 x5) fun x6 => bindO (vLoad s2 x6 1 false) fun x7 => bindO (hfold vMax2 x7 [a1]) fun x8 => bindO (vNil x3) fun x9 => bindO (vField 6 x9) fun x10 => hStore s2 x10 x8 1 (fun s11 => Join (fun K12 => Join (fun K15 => bindO (vLoad s11 x1 1 false) fun x18 => HC Tryz.prog 55 [x18, (.func (.func 77) [x1])] s11 (fun r19 s20 => hcond r19 (bindO (vLoad s20 x1 1 false) fun x21 => bindO (vNil x21) fun x22 => bindO (vField 3 x22) fun x23 => bindO (vLoad s20 x23 1 false) fun x24 => bindO (vCmp (Tryz.prog.underlying 3) .neq x24 (.lit (.int .i64 2))) fun x25 => K15 [x25] s20) (K15 [(.lit (.bool false))] s20))) (fun y16 s17 => hcond (y16.headD .junk) (bindO (vLoad s17 x1 1 false) fun x26 => HC Tryz.prog 39 [x26] s17 (fun r27 s28 => K12 [] s28)) (K12 [] s17))) (fun y13 s14 => Join (fun K29 => Join (fun K32 => bindO (vLoad s14 x1 1 false) fun x35 => bindO (vNil x35) fun x36 => bindO (vField 3 x36) fun x37 => bindO (vLoad s14 x37 1 false) fun x38 => bindO (vCmp (Tryz.prog.underlying 3) .eql x38 (.lit (.int .i64 2))) fun x39 => hcond x39 (bindO (vLoad s14 x1 1 false) fun x40 => bindO (vNil x40) fun x41 => bindO (vField 9 x41) fun x42 => bindO (vLoad s14 x42 1 false) fun x43 => bindO (vLenT (Tryz.prog.underlying 51) s14 x43) fun x44 => bindO (vCmp (Tryz.prog.underlying 3) .eql x44 (.lit (.int .i64 0))) fun x45 => K32 [x45] s14) (K32 [(.lit (.bool false))] s14)) (fun y33 s34 => hcond (y33.headD .junk) (bindO (vLoad s34 x1 1 false) fun x46 => HC Tryz.prog 44 [x46, (.lit (.int .i64 1))] s34 (fun r47 s48 => K29 [] s48)) (K29 [] s34))) (fun y30 s31 => bindO (vLoad s31 x1 1 false) fun x49 => HC Tryz.prog 40 [x49] s31 (fun r50 s51 => Join (fun K52 => bindO (vLoad s51 x1 1 false) fun x55 => bindO (vNil x55) fun x56 => bindO (vField 3 x56) fun x57 => bindO (vLoad s51 x57 1 false) fun x58 => bindO (vCmp (Tryz.prog.underlying 3) .eql x58 (.lit (.int .i64 3))) fun x59 => hcond x59 (bindO (vLoad s51 x1 1 false) fun x60 => HC Tryz.prog 66 [x60] s51 (fun r61 s62 => hcond r61 (bindO (vLoad s62 x1 1 false) fun x63 => HC Tryz.prog 55 [x63, (.func (.func 78) [])] s62 (fun r64 s65 => K52 [r64] s65)) (K52 [(.lit (.bool false))] s62))) (K52 [(.lit (.bool false))] s51)) (fun y53 s54 => hcond (y53.headD .junk) (bindO (vLoad s54 x1 1 false) fun x66 => HC Tryz.prog 39 [x66] s54 (fun r67 s68 => Q (.tup []) s68)) (Q (.tup []) s54)))))))
theorem c59_eq (a0 a1 : HV) (s : HS) (Q : HV → HS → Prop) : (match Tryz.f59.body with | some c => hwp Tryz.prog (fun p => if p = 7 then some [] else if p = 14 then some [22] else if p = 15 then some [] else if p = 30 then some [37] else if p = 63 then some [54] else none) false 1 c (hretQ Tryz.prog Tryz.f59.results.toList Q) (([a0, a1] : List HV) ++ List.replicate (Tryz.f59.ntmps - 2) (.lit undef)) s | none => False) = c59 a0 a1 s Q := by kernel_rfl
theorem HC59 {a0 a1 : HV} {s : HS} {Q : HV → HS → Prop} (h : c59 a0 a1 s Q) : HC Tryz.prog 59 [a0, a1] s Q := HC_by Tryz.func59 (by have := c59_eq a0 a1 s Q; exact this.mpr h)
/-- (*cordwain/group.Group).Tick -/
def c23 (a0 a1 a2 : HV) (s : HS) (Q : HV → HS → Prop) : Prop :=
  bindO (vCmp (Tryz.prog.underlying 25) .neq a0 (.lit (.pointer none))) fun x1 => hcond x1 (HC Tryz.prog 58 [a1] s (fun r2 s3 => bindO (vNil a0) fun x4 => bindO (vField 8 x4) fun x5 => hStore s3 x5 r2 1 (fun s6 => HC Tryz.prog 59 [a0, a2] s6 (fun r7 s8 => Q (.tup []) s8)))) (Q (.tup []) s)
theorem c23_eq (a0 a1 a2 : HV) (s : HS) (Q : HV → HS → Prop) : (match Tryz.f23.body with | some c => hwp Tryz.prog (fun p => none) false 1 c (hretQ Tryz.prog Tryz.f23.results.toList Q) (([a0, a1, a2] : List HV) ++ List.replicate (Tryz.f23.ntmps - 3) (.lit undef)) s | none => False) = c23 a0 a1 a2 s Q := by kernel_rfl
theorem HC23 {a0 a1 a2 : HV} {s : HS} {Q : HV → HS → Prop} (h : c23 a0 a1 a2 s Q) : HC Tryz.prog 23 [a0, a1, a2] s Q := HC_by Tryz.func23 (by have := c23_eq a0 a1 a2 s Q; exact this.mpr h)
/-- internal/strconv.small -/
def c90 (a0 : HV) (s : HS) (Q : HV → HS → Prop) : Prop :=
  bindO (vBin .lss a0 (.lit (.int .i64 10))) fun x1 => hcond x1 (bindO (vBin .add a0 (.lit (.int .i64 1))) fun x2 => bindO (vStrSlice (.lit (.string { data := #[48, 49, 50, 51, 52, 53, 54, 55, 56, 57, 97, 98, 99, 100, 101, 102, 103, 104, 105, 106, 107, 108, 109, 110, 111, 112, 113, 114, 115, 116, 117, 118, 119, 120, 121, 122] })) (some a0) (some x2)) fun x3 => Q x3 s) (bindO (vBin .mul a0 (.lit (.int .i64 2))) fun x4 => bindO (vBin .mul a0 (.lit (.int .i64 2))) fun x5 => bindO (vBin .add x5 (.lit (.int .i64 2))) fun x6 => bindO (vStrSlice (.lit (.string { data := #[48, 48, 48, 49, 48, 50, 48, 51, 48, 52, 48, 53, 48, 54, 48, 55, 48, 56, 48, 57, 49, 48, 49, 49, 49, 50, 49, 51, 49, 52, 49, 53, 49, 54, 49, 55, 49, 56, 49, 57, 50, 48, 50, 49, 50, 50, 50, 51, 50, 52, 50, 53, 50, 54, 50, 55, 50, 56, 50, 57, 51, 48, 51, 49, 51, 50, 51, 51, 51, 52, 51, 53, 51, 54, 51, 55, 51, 56, 51, 57, 52, 48, 52, 49, 52, 50, 52, 51, 52, 52, 52, 53, 52, 54, 52, 55, 52, 56, 52, 57, 53, 48, 53, 49, 53, 50, 53, 51, 53, 52, 53, 53, 53, 54, 53, 55, 53, 56, 53, 57, 54, 48, 54, 49, 54, 50, 54, 51, 54, 52, 54, 53, 54, 54, 54, 55, 54, 56, 54, 57, 55, 48, 55, 49, 55, 50, 55, 51, 55, 52, 55, 53, 55, 54, 55, 55, 55, 56, 55, 57, 56, 48, 56, 49, 56, 50, 56, 51, 56, 52, 56, 53, 56, 54, 56, 55, 56, 56, 56, 57, 57, 48, 57, 49, 57, 50, 57, 51, 57, 52, 57, 53, 57, 54, 57, 55, 57, 56, 57, 57] })) (some x4) (some x6)) fun x7 => Q x7 s)
theorem c90_eq (a0 : HV) (s : HS) (Q : HV → HS → Prop) : (match Tryz.f90.body with | some c => hwp Tryz.prog (fun p => none) false 1 c (hretQ Tryz.prog Tryz.f90.results.toList Q) (([a0] : List HV) ++ List.replicate (Tryz.f90.ntmps - 1) (.lit undef)) s | none => False) = c90 a0 s Q := by kernel_rfl
theorem HC90 {a0 : HV} {s : HS} {Q : HV → HS → Prop} (h : c90 a0 s Q) : HC Tryz.prog 90 [a0] s Q := HC_by Tryz.func90 (by have := c90_eq a0 s Q; exact this.mpr h)
/-- internal/strconv.Itoa -/
def c64 (a0 : HV) (s : HS) (Q : HV → HS → Prop) : Prop :=
  HC Tryz.prog 79 [a0, (.lit (.int .i64 10))] s (fun r1 s2 => Q r1 s2)
theorem c64_eq (a0 : HV) (s : HS) (Q : HV → HS → Prop) : (match Tryz.f64.body with | some c => hwp Tryz.prog (fun p => none) false 1 c (hretQ Tryz.prog Tryz.f64.results.toList Q) (([a0] : List HV) ++ List.replicate (Tryz.f64.ntmps - 1) (.lit undef)) s | none => False) = c64 a0 s Q := by kernel_rfl
theorem HC64 {a0 : HV} {s : HS} {Q : HV → HS → Prop} (h : c64 a0 s Q) : HC Tryz.prog 64 [a0] s Q := HC_by Tryz.func64 (by have := c64_eq a0 s Q; exact this.mpr h)
/-- internal/strconv.FormatInt -/
def c79 (a0 a1 : HV) (s : HS) (Q : HV → HS → Prop) : Prop :=
  bindO (vCmp (Tryz.prog.underlying 3) .eql a1 (.lit (.int .i64 10))) fun x1 => hcond x1 (Join (fun K2 => bindO (vBin .leq (.lit (.int .i64 0)) a0) fun x5 => hcond x5 (bindO (vBin .lss a0 (.lit (.int .i64 100))) fun x6 => K2 [x6] s) (K2 [(.lit (.bool false))] s)) (fun y3 s4 => hcond (y3.headD .junk) (HC Tryz.prog 90 [a0] s4 (fun r7 s8 => Q r7 s8)) (hNew s4 (.cells [.lit (.int .u8 0), .lit (.int .u8 0), .lit (.int .u8 0), .lit (.int .u8 0), .lit (.int .u8 0), .lit (.int .u8 0), .lit (.int .u8 0), .lit (.int .u8 0), .lit (.int .u8 0), .lit (.int .u8 0), .lit (.int .u8 0), .lit (.int .u8 0), .lit (.int .u8 0), .lit (.int .u8 0), .lit (.int .u8 0), .lit (.int .u8 0), .lit (.int .u8 0), .lit (.int .u8 0), .lit (.int .u8 0), .lit (.int .u8 0), .lit (.int .u8 0), .lit (.int .u8 0), .lit (.int .u8 0), .lit (.int .u8 0)]) (fun id => .ptr id 0) (fun x9 s10 => bindO (vToInt .u64 a0) fun x11 => Join (fun K12 => bindO (vBin .lss a0 (.lit (.int .i64 0))) fun x15 => hcond x15 (bindO (vUn .neg x11) fun x16 => K12 [x16] s10) (K12 [x11] s10)) (fun y13 s14 => HC Tryz.prog 91 [(y13.headD .junk)] s14 (fun r17 s18 => bindO (vBin .add (.lit (.int .i64 1)) r17) fun x19 => False)))))) (bindO (vToInt .u64 a0) fun x20 => bindO (vBin .lss a0 (.lit (.int .i64 0))) fun x21 => HC Tryz.prog 93 [(.lit (.slice none 0 0)), x20, a1, x21, (.lit (.bool false))] s (fun r22 s23 => bindO (vExtract r22 0) fun x24 => bindO (vExtract r22 1) fun x25 => Q x25 s23))
theorem c79_eq (a0 a1 : HV) (s : HS) (Q : HV → HS → Prop) : (match Tryz.f79.body with | some c => hwp Tryz.prog (fun p => if p = 52 then some [17] else if p = 215 then some [6] else none) false 1 c (hretQ Tryz.prog Tryz.f79.results.toList Q) (([a0, a1] : List HV) ++ List.replicate (Tryz.f79.ntmps - 2) (.lit undef)) s | none => False) = c79 a0 a1 s Q := by kernel_rfl
theorem HC79 {a0 a1 : HV} {s : HS} {Q : HV → HS → Prop} (h : c79 a0 a1 s Q) : HC Tryz.prog 79 [a0, a1] s Q := HC_by Tryz.func79 (by have := c79_eq a0 a1 s Q; exact this.mpr h)
/-- strconv.Itoa -/
def c36 (a0 : HV) (s : HS) (Q : HV → HS → Prop) : Prop :=
  HC Tryz.prog 64 [a0] s (fun r1 s2 => Q r1 s2)
theorem c36_eq (a0 : HV) (s : HS) (Q : HV → HS → Prop) : (match Tryz.f36.body with | some c => hwp Tryz.prog (fun p => none) false 1 c (hretQ Tryz.prog Tryz.f36.results.toList Q) (([a0] : List HV) ++ List.replicate (Tryz.f36.ntmps - 1) (.lit undef)) s | none => False) = c36 a0 s Q := by kernel_rfl
theorem HC36 {a0 : HV} {s : HS} {Q : HV → HS → Prop} (h : c36 a0 s Q) : HC Tryz.prog 36 [a0] s Q := HC_by Tryz.func36 (by have := c36_eq a0 s Q; exact this.mpr h)
/-- slices.Equal[[]string,string] -/
def c37 (a0 a1 : HV) (s : HS) (Q : HV → HS → Prop) : Prop :=
  bindO (vLenT (Tryz.prog.underlying 33) s a0) fun x1 => bindO (vLenT (Tryz.prog.underlying 33) s a1) fun x2 => bindO (vCmp (Tryz.prog.underlying 3) .neq x1 x2) fun x3 => hcond x3 (Q (.lit (.bool false)) s) (bindO (vLenT (Tryz.prog.underlying 33) s a0) fun x4 => HLoop (fun y6 s7 K5 => bindO (vBin .lss (y6.headD .junk) x4) fun x8 => hcond x8 (bindO (vIdx 1 a0 (y6.headD .junk)) fun x9 => bindO (vLoad s7 x9 1 false) fun x10 => bindO (vIdx 1 a1 (y6.headD .junk)) fun x11 => bindO (vLoad s7 x11 1 false) fun x12 => bindO (vCmp (Tryz.prog.underlying 9) .neq x10 x12) fun x13 => hcond x13 (Q (.lit (.bool false)) s7) (bindO (vBin .add (y6.headD .junk) (.lit (.int .i64 1))) fun x14 => K5 [x14] s7)) (Q (.lit (.bool true)) s7)) [(.lit (.int .i64 0))] s)
theorem c37_eq (a0 a1 : HV) (s : HS) (Q : HV → HS → Prop) : (match Tryz.f37.body with | some c => hwp Tryz.prog (fun p => if p = 58 then some [13] else none) false 1 c (hretQ Tryz.prog Tryz.f37.results.toList Q) (([a0, a1] : List HV) ++ List.replicate (Tryz.f37.ntmps - 2) (.lit undef)) s | none => False) = c37 a0 a1 s Q := by kernel_rfl
theorem HC37 {a0 a1 : HV} {s : HS} {Q : HV → HS → Prop} (h : c37 a0 a1 s Q) : HC Tryz.prog 37 [a0, a1] s Q := HC_by Tryz.func37 (by have := c37_eq a0 a1 s Q; exact this.mpr h)
/-- slices.Clone[[]string,string] -/
def c38 (a0 : HV) (s : HS) (Q : HV → HS → Prop) : Prop :=
  bindO (vCmp (Tryz.prog.underlying 33) .eql a0 (.lit (.slice none 0 0))) fun x1 => hcond x1 (Q (.lit (.slice none 0 0)) s) (hBS s 1 0 [] [] (fun x2 s3 => hAppend s3 1 16 x2 a0 (fun x4 s5 => Q x4 s5)))
theorem c38_eq (a0 : HV) (s : HS) (Q : HV → HS → Prop) : (match Tryz.f38.body with | some c => hwp Tryz.prog (fun p => none) false 1 c (hretQ Tryz.prog Tryz.f38.results.toList Q) (([a0] : List HV) ++ List.replicate (Tryz.f38.ntmps - 1) (.lit undef)) s | none => False) = c38 a0 s Q := by kernel_rfl
theorem HC38 {a0 : HV} {s : HS} {Q : HV → HS → Prop} (h : c38 a0 s Q) : HC Tryz.prog 38 [a0] s Q := HC_by Tryz.func38 (by have := c38_eq a0 s Q; exact this.mpr h)
/-- (*cordwain/group.Group).Join -/
def c13 (a0 a1 a2 a3 a4 : HV) (s : HS) (Q : HV → HS → Prop) : Prop :=
  bindO (vCmp (Tryz.prog.underlying 25) .eql a0 (.lit (.pointer none))) fun x1 => hcond x1 (Q (.tup [(.lit (.string { data := #[] })), (.lit (.int .i64 0)), (.lit (.int .i64 13))]) s) (HC Tryz.prog 23 [a0, a3, a4] s (fun r2 s3 => HC Tryz.prog 35 [a0, a1] s3 (fun r4 s5 => bindO (vLenT (Tryz.prog.underlying 33) s5 a2) fun x6 => bindO (vBin .gtr x6 (.lit (.int .i64 30))) fun x7 => hcond x7 (Q (.tup [(.lit (.string { data := #[] })), (.lit (.int .i64 0)), (.lit (.int .i64 1))]) s5) (Join (fun K8 => bindO (vCmp (Tryz.prog.underlying 9) .eql a1 (.lit (.string { data := #[] }))) fun x11 => hcond x11 (bindO (vNil a0) fun x12 => bindO (vField 9 x12) fun x13 => bindO (vLoad s5 x13 1 false) fun x14 => bindO (vLenT (Tryz.prog.underlying 51) s5 x14) fun x15 => bindO (vBin .geq x15 (.lit (.int .i64 20))) fun x16 => K8 [x16] s5) (K8 [(.lit (.bool false))] s5)) (fun y9 s10 => hcond (y9.headD .junk) (Q (.tup [(.lit (.string { data := #[] })), (.lit (.int .i64 0)), (.lit (.int .i64 4))]) s10) (Join (fun K17 => bindO (vCmp (Tryz.prog.underlying 9) .neq a1 (.lit (.string { data := #[] }))) fun x20 => hcond x20 (bindO (vCmp (Tryz.prog.underlying 79) .eql r4 (.lit (.pointer none))) fun x21 => K17 [x21] s10) (K17 [(.lit (.bool false))] s10)) (fun y18 s19 => hcond (y18.headD .junk) (Q (.tup [(.lit (.string { data := #[] })), (.lit (.int .i64 0)), (.lit (.int .i64 13))]) s19) (bindO (vCmp (Tryz.prog.underlying 9) .eql a1 (.lit (.string { data := #[] }))) fun x22 => Join (fun K23 => hcond x22 (bindO (vNil a0) fun x26 => bindO (vField 5 x26) fun x27 => bindO (vLoad s19 x27 1 false) fun x28 => bindO (vBin .add x28 (.lit (.int .i64 1))) fun x29 => bindO (vNil a0) fun x30 => bindO (vField 5 x30) fun x31 => hStore s19 x31 x29 1 (fun s32 => bindO (vNil a0) fun x33 => bindO (vField 5 x33) fun x34 => bindO (vLoad s32 x34 1 false) fun x35 => HC Tryz.prog 36 [x35] s32 (fun r36 s37 => bindO (vBin .add (.lit (.string { data := #[109] })) r36) fun x38 => bindO (vMk [(0, 1), (1, 1), (2, 1), (3, 1), (4, 1)] [.lit (.string .empty), .lit (.slice none 0 0), .lit (.int .i64 0), .lit (.bool false), .lit (.bool false)] [(0, x38)]) fun x39 => hBox s37 x39 (fun x40 s41 => bindO (vNil a0) fun x42 => bindO (vField 9 x42) fun x43 => bindO (vLoad s41 x43 1 false) fun x44 => hBS s41 1 1 [.lit (.pointer none)] [(0, x40)] (fun x45 s46 => hAppend s46 1 8 x44 x45 (fun x47 s48 => bindO (vNil a0) fun x49 => bindO (vField 9 x49) fun x50 => hStore s48 x50 x47 1 (fun s51 => K23 [x40] s51))))))) (K23 [r4] s19)) (fun y24 s25 => bindO (vNil a0) fun x52 => bindO (vField 6 x52) fun x53 => bindO (vLoad s25 x53 1 false) fun x54 => bindO (vNil (y24.headD .junk)) fun x55 => bindO (vField 2 x55) fun x56 => hStore s25 x56 x54 1 (fun s57 => Join (fun K58 => Join (fun K61 => hcond x22 (K61 [(.lit (.bool true))] s57) (bindO (vNil a0) fun x64 => bindO (vField 3 x64) fun x65 => bindO (vLoad s57 x65 1 false) fun x66 => bindO (vCmp (Tryz.prog.underlying 3) .eql x66 (.lit (.int .i64 2))) fun x67 => hcond x67 (K61 [(.lit (.bool true))] s57) (bindO (vNil (y24.headD .junk)) fun x68 => bindO (vField 1 x68) fun x69 => bindO (vLoad s57 x69 1 false) fun x70 => HC Tryz.prog 37 [x70, a2] s57 (fun r71 s72 => bindO (vUn .not r71) fun x73 => K61 [x73] s72)))) (fun y62 s63 => hcond (y62.headD .junk) (HC Tryz.prog 38 [a2] s63 (fun r74 s75 => bindO (vNil (y24.headD .junk)) fun x76 => bindO (vField 1 x76) fun x77 => hStore s75 x77 r74 1 (fun s78 => Join (fun K79 => bindO (vNil a0) fun x82 => bindO (vField 3 x82) fun x83 => bindO (vLoad s78 x83 1 false) fun x84 => bindO (vCmp (Tryz.prog.underlying 3) .neq x84 (.lit (.int .i64 2))) fun x85 => hcond x85 (HC Tryz.prog 39 [a0] s78 (fun r86 s87 => K79 [] s87)) (K79 [] s78)) (fun y80 s81 => bindO (vNil (y24.headD .junk)) fun x88 => bindO (vField 3 x88) fun x89 => hStore s81 x89 (.lit (.bool true)) 1 (fun s90 => HC Tryz.prog 40 [a0] s90 (fun r91 s92 => K58 [] s92)))))) (K58 [] s63))) (fun y59 s60 => bindO (vNil a0) fun x93 => bindO (vField 3 x93) fun x94 => bindO (vLoad s60 x94 1 false) fun x95 => bindO (vCmp (Tryz.prog.underlying 3) .eql x95 (.lit (.int .i64 2))) fun x96 => hcond x96 (bindO (vNil (y24.headD .junk)) fun x97 => bindO (vField 0 x97) fun x98 => bindO (vLoad s60 x98 1 false) fun x99 => Q (.tup [x99, (.lit (.int .i64 0)), (.lit (.int .i64 14))]) s60) (bindO (vNil (y24.headD .junk)) fun x100 => bindO (vField 0 x100) fun x101 => bindO (vLoad s60 x101 1 false) fun x102 => bindO (vNil a0) fun x103 => bindO (vField 4 x103) fun x104 => bindO (vLoad s60 x104 1 false) fun x105 => (vLoad s60 x104 1 false = vLoad s60 x104 1 false ∧ Q (.tup [x102, x105, (.lit (.int .i64 0))]) s60)))))))))))))
theorem c13_eq (a0 a1 a2 a3 a4 : HV) (s : HS) (Q : HV → HS → Prop) : (match Tryz.f13.body with | some c => hwp Tryz.prog (fun p => if p = 127 then some [13] else if p = 499 then some [28] else if p = 511 then some [] else if p = 1022 then some [97] else if p = 1999 then some [39] else if p = 8181 then some [] else none) false 1 c (hretQ Tryz.prog Tryz.f13.results.toList Q) (([a0, a1, a2, a3, a4] : List HV) ++ List.replicate (Tryz.f13.ntmps - 5) (.lit undef)) s | none => False) = c13 a0 a1 a2 a3 a4 s Q := by kernel_rfl
theorem HC13 {a0 a1 a2 a3 a4 : HV} {s : HS} {Q : HV → HS → Prop} (h : c13 a0 a1 a2 a3 a4 s Q) : HC Tryz.prog 13 [a0, a1, a2, a3, a4] s Q := HC_by Tryz.func13 (by have := c13_eq a0 a1 a2 a3 a4 s Q; exact this.mpr h)
/-- (*cordwain/group.Group).fence -/
def c60 (a0 a1 a2 : HV) (s : HS) (Q : HV → HS → Prop) : Prop :=
  bindO (vCmp (Tryz.prog.underlying 25) .eql a0 (.lit (.pointer none))) fun x1 => hcond x1 (Q (.tup [(.lit (.pointer none)), (.lit (.int .i64 13))]) s) (HC Tryz.prog 35 [a0, a1] s (fun r2 s3 => bindO (vCmp (Tryz.prog.underlying 79) .eql r2 (.lit (.pointer none))) fun x4 => hcond x4 (Q (.tup [(.lit (.pointer none)), (.lit (.int .i64 13))]) s3) (bindO (vNil a0) fun x5 => bindO (vField 4 x5) fun x6 => bindO (vLoad s3 x6 1 false) fun x7 => bindO (vCmp (Tryz.prog.underlying 3) .neq a2 x7) fun x8 => hcond x8 (Q (.tup [(.lit (.pointer none)), (.lit (.int .i64 12))]) s3) (Q (.tup [r2, (.lit (.int .i64 0))]) s3))))
theorem c60_eq (a0 a1 a2 : HV) (s : HS) (Q : HV → HS → Prop) : (match Tryz.f60.body with | some c => hwp Tryz.prog (fun p => none) false 1 c (hretQ Tryz.prog Tryz.f60.results.toList Q) (([a0, a1, a2] : List HV) ++ List.replicate (Tryz.f60.ntmps - 3) (.lit undef)) s | none => False) = c60 a0 a1 a2 s Q := by kernel_rfl
theorem HC60 {a0 a1 a2 : HV} {s : HS} {Q : HV → HS → Prop} (h : c60 a0 a1 a2 s Q) : HC Tryz.prog 60 [a0, a1, a2] s Q := HC_by Tryz.func60 (by have := c60_eq a0 a1 a2 s Q; exact this.mpr h)
/-- (*cordwain/group.Group).heard -/
def c41 (a0 a1 a2 a3 : HV) (s : HS) (Q : HV → HS → Prop) : Prop :=
  Join (fun K1 => bindO (vCmp (Tryz.prog.underlying 25) .neq a0 (.lit (.pointer none))) fun x4 => hcond x4 (HC Tryz.prog 59 [a0, a3] s (fun r5 s6 => K1 [] s6)) (K1 [] s)) (fun y2 s3 => HC Tryz.prog 60 [a0, a1, a2] s3 (fun r7 s8 => bindO (vExtract r7 0) fun x9 => bindO (vExtract r7 1) fun x10 => bindO (vCmp (Tryz.prog.underlying 26) .neq x10 (.lit (.int .i64 0))) fun x11 => hcond x11 (Q (.tup [(.lit (.pointer none)), x10]) s8) (bindO (vNil a0) fun x12 => bindO (vField 6 x12) fun x13 => bindO (vLoad s8 x13 1 false) fun x14 => bindO (vNil x9) fun x15 => bindO (vField 2 x15) fun x16 => hStore s8 x16 x14 1 (fun s17 => bindO (vNil a0) fun x18 => bindO (vField 3 x18) fun x19 => bindO (vLoad s17 x19 1 false) fun x20 => bindO (vCmp (Tryz.prog.underlying 3) .eql x20 (.lit (.int .i64 2))) fun x21 => hcond x21 (Q (.tup [(.lit (.pointer none)), (.lit (.int .i64 14))]) s17) (Q (.tup [x9, (.lit (.int .i64 0))]) s17)))))
theorem c41_eq (a0 a1 a2 a3 : HV) (s : HS) (Q : HV → HS → Prop) : (match Tryz.f41.body with | some c => hwp Tryz.prog (fun p => if p = 3 then some [] else none) false 1 c (hretQ Tryz.prog Tryz.f41.results.toList Q) (([a0, a1, a2, a3] : List HV) ++ List.replicate (Tryz.f41.ntmps - 4) (.lit undef)) s | none => False) = c41 a0 a1 a2 a3 s Q := by kernel_rfl
theorem HC41 {a0 a1 a2 a3 : HV} {s : HS} {Q : HV → HS → Prop} (h : c41 a0 a1 a2 a3 s Q) : HC Tryz.prog 41 [a0, a1, a2, a3] s Q := HC_by Tryz.func41 (by have := c41_eq a0 a1 a2 a3 s Q; exact this.mpr h)
/-- (*cordwain/group.Group).Sync$1 -/
def c43 (a0 : HV) (s : HS) (Q : HV → HS → Prop) : Prop :=
  bindO (vNil a0) fun x1 => bindO (vField 4 x1) fun x2 => bindO (vLoad s x2 1 false) fun x3 => Q x3 s
theorem c43_eq (a0 : HV) (s : HS) (Q : HV → HS → Prop) : (match Tryz.f43.body with | some c => hwp Tryz.prog (fun p => none) false 1 c (hretQ Tryz.prog Tryz.f43.results.toList Q) (([a0] : List HV) ++ List.replicate (Tryz.f43.ntmps - 1) (.lit undef)) s | none => False) = c43 a0 s Q := by kernel_rfl
theorem HC43 {a0 : HV} {s : HS} {Q : HV → HS → Prop} (h : c43 a0 s Q) : HC Tryz.prog 43 [a0] s Q := HC_by Tryz.func43 (by have := c43_eq a0 s Q; exact this.mpr h)
/-- slices.Clone[[]cordwain/api.Slot,cordwain/api.Slot] -/
def c61 (a0 : HV) (s : HS) (Q : HV → HS → Prop) : Prop :=
  bindO (vCmp (Tryz.prog.underlying 46) .eql a0 (.lit (.slice none 0 0))) fun x1 => hcond x1 (Q (.lit (.slice none 0 0)) s) (hBS s 2 0 [] [] (fun x2 s3 => hAppend s3 2 24 x2 a0 (fun x4 s5 => Q x4 s5)))
theorem c61_eq (a0 : HV) (s : HS) (Q : HV → HS → Prop) : (match Tryz.f61.body with | some c => hwp Tryz.prog (fun p => none) false 1 c (hretQ Tryz.prog Tryz.f61.results.toList Q) (([a0] : List HV) ++ List.replicate (Tryz.f61.ntmps - 1) (.lit undef)) s | none => False) = c61 a0 s Q := by kernel_rfl
theorem HC61 {a0 : HV} {s : HS} {Q : HV → HS → Prop} (h : c61 a0 s Q) : HC Tryz.prog 61 [a0] s Q := HC_by Tryz.func61 (by have := c61_eq a0 s Q; exact this.mpr h)
/-- cordwain/assign.Of -/
def c45 (a0 a1 : HV) (s : HS) (Q : HV → HS → Prop) : Prop :=
  bindO (vLenT (Tryz.prog.underlying 52) s a0) fun x1 => HLoop (fun y3 s4 K2 => bindO (vBin .lss (y3.headD .junk) x1) fun x5 => hcond x5 (bindO (vIdx 2 a0 (y3.headD .junk)) fun x6 => bindO (vLoad s4 x6 2 true) fun x7 => hNew s4 (.cells [.lit (.string .empty), .lit (.slice none 0 0)]) (fun id => .ptr id 0) (fun x8 s9 => hStore s9 x8 x7 2 (fun s10 => bindO (vField 0 x8) fun x11 => bindO (vLoad s10 x11 1 false) fun x12 => bindO (vCmp (Tryz.prog.underlying 9) .eql x12 a1) fun x13 => hcond x13 (bindO (vField 1 x8) fun x14 => bindO (vLoad s10 x14 1 false) fun x15 => HC Tryz.prog 61 [x15] s10 (fun r16 s17 => Q r16 s17)) (bindO (vBin .add (y3.headD .junk) (.lit (.int .i64 1))) fun x18 => K2 [x18] s10)))) (Q (.lit (.slice none 0 0)) s4)) [(.lit (.int .i64 0))] s
theorem c45_eq (a0 a1 : HV) (s : HS) (Q : HV → HS → Prop) : (match Tryz.f45.body with | some c => hwp Tryz.prog (fun p => if p = 26 then some [9] else none) false 1 c (hretQ Tryz.prog Tryz.f45.results.toList Q) (([a0, a1] : List HV) ++ List.replicate (Tryz.f45.ntmps - 2) (.lit undef)) s | none => False) = c45 a0 a1 s Q := by kernel_rfl
theorem HC45 {a0 a1 : HV} {s : HS} {Q : HV → HS → Prop} (h : c45 a0 a1 s Q) : HC Tryz.prog 45 [a0, a1] s Q := HC_by Tryz.func45 (by have := c45_eq a0 a1 s Q; exact this.mpr h)
/-- (*cordwain/group.Group).Sync -/
def c14 (a0 a1 a2 a3 : HV) (s : HS) (Q : HV → HS → Prop) : Prop :=
  HC Tryz.prog 41 [a0, a1, a2, a3] s (fun r1 s2 => bindO (vExtract r1 0) fun x3 => bindO (vExtract r1 1) fun x4 => bindO (vCmp (Tryz.prog.underlying 26) .neq x4 (.lit (.int .i64 0))) fun x5 => hcond x5 (Q (.tup [(.lit (.slice none 0 0)), x4]) s2) (bindO (vNil x3) fun x6 => bindO (vField 4 x6) fun x7 => hStore s2 x7 (.lit (.bool true)) 1 (fun s8 => Join (fun K9 => Join (fun K12 => bindO (vNil a0) fun x15 => bindO (vField 3 x15) fun x16 => bindO (vLoad s8 x16 1 false) fun x17 => bindO (vCmp (Tryz.prog.underlying 3) .eql x17 (.lit (.int .i64 3))) fun x18 => hcond x18 (HC Tryz.prog 42 [a0, (.func (.func 43) [])] s8 (fun r19 s20 => K12 [r19] s20)) (K12 [(.lit (.bool false))] s8)) (fun y13 s14 => hcond (y13.headD .junk) (HC Tryz.prog 44 [a0, (.lit (.int .i64 4))] s14 (fun r21 s22 => K9 [] s22)) (K9 [] s14))) (fun y10 s11 => bindO (vNil a0) fun x23 => bindO (vField 10 x23) fun x24 => bindO (vLoad s11 x24 1 false) fun x25 => HC Tryz.prog 45 [x25, a1] s11 (fun r26 s27 => Q (.tup [r26, (.lit (.int .i64 0))]) s27)))))
theorem c14_eq (a0 a1 a2 a3 : HV) (s : HS) (Q : HV → HS → Prop) : (match Tryz.f14.body with | some c => hwp Tryz.prog (fun p => if p = 31 then some [] else if p = 62 then some [34] else none) false 1 c (hretQ Tryz.prog Tryz.f14.results.toList Q) (([a0, a1, a2, a3] : List HV) ++ List.replicate (Tryz.f14.ntmps - 4) (.lit undef)) s | none => False) = c14 a0 a1 a2 a3 s Q := by kernel_rfl
theorem HC14 {a0 a1 a2 a3 : HV} {s : HS} {Q : HV → HS → Prop} (h : c14 a0 a1 a2 a3 s Q) : HC Tryz.prog 14 [a0, a1, a2, a3] s Q := HC_by Tryz.func14 (by have := c14_eq a0 a1 a2 a3 s Q; exact this.mpr h)
/-- (*cordwain/group.Group).State -/
def c15 (a0 : HV) (s : HS) (Q : HV → HS → Prop) : Prop :=
  bindO (vCmp (Tryz.prog.underlying 25) .eql a0 (.lit (.pointer none))) fun x1 => hcond x1 (Q (.lit (.int .i64 0)) s) (bindO (vNil a0) fun x2 => bindO (vField 3 x2) fun x3 => bindO (vLoad s x3 1 false) fun x4 => Q x4 s)
theorem c15_eq (a0 : HV) (s : HS) (Q : HV → HS → Prop) : (match Tryz.f15.body with | some c => hwp Tryz.prog (fun p => none) false 1 c (hretQ Tryz.prog Tryz.f15.results.toList Q) (([a0] : List HV) ++ List.replicate (Tryz.f15.ntmps - 1) (.lit undef)) s | none => False) = c15 a0 s Q := by kernel_rfl
theorem HC15 {a0 : HV} {s : HS} {Q : HV → HS → Prop} (h : c15 a0 s Q) : HC Tryz.prog 15 [a0] s Q := HC_by Tryz.func15 (by have := c15_eq a0 s Q; exact this.mpr h)
/-- (*cordwain/group.Group).Beat -/
def c16 (a0 a1 a2 a3 : HV) (s : HS) (Q : HV → HS → Prop) : Prop :=
  HC Tryz.prog 41 [a0, a1, a2, a3] s (fun r1 s2 => bindO (vExtract r1 0) fun x3 => bindO (vExtract r1 1) fun x4 => Q x4 s2)
theorem c16_eq (a0 a1 a2 a3 : HV) (s : HS) (Q : HV → HS → Prop) : (match Tryz.f16.body with | some c => hwp Tryz.prog (fun p => none) false 1 c (hretQ Tryz.prog Tryz.f16.results.toList Q) (([a0, a1, a2, a3] : List HV) ++ List.replicate (Tryz.f16.ntmps - 4) (.lit undef)) s | none => False) = c16 a0 a1 a2 a3 s Q := by kernel_rfl
theorem HC16 {a0 a1 a2 a3 : HV} {s : HS} {Q : HV → HS → Prop} (h : c16 a0 a1 a2 a3 s Q) : HC Tryz.prog 16 [a0, a1, a2, a3] s Q := HC_by Tryz.func16 (by have := c16_eq a0 a1 a2 a3 s Q; exact this.mpr h)
/-- cordwain/cordwainalike.Round -/
def c8 (a0 a1 : HV) (s : HS) (Q : HV → HS → Prop) : Prop :=
  bindO (vBin .rem a0 a1) fun x1 => Join (fun K2 => bindO (vBin .lss x1 (.lit (.int .i64 0))) fun x5 => hcond x5 (bindO (vBin .add x1 a1) fun x6 => K2 [x6] s) (K2 [x1] s)) (fun y3 s4 => Q (y3.headD .junk) s4)
theorem c8_eq (a0 a1 : HV) (s : HS) (Q : HV → HS → Prop) : (match Tryz.f8.body with | some c => hwp Tryz.prog (fun p => if p = 7 then some [0] else none) false 1 c (hretQ Tryz.prog Tryz.f8.results.toList Q) (([a0, a1] : List HV) ++ List.replicate (Tryz.f8.ntmps - 2) (.lit undef)) s | none => False) = c8 a0 a1 s Q := by kernel_rfl
theorem HC8 {a0 a1 : HV} {s : HS} {Q : HV → HS → Prop} (h : c8 a0 a1 s Q) : HC Tryz.prog 8 [a0, a1] s Q := HC_by Tryz.func8 (by have := c8_eq a0 a1 s Q; exact this.mpr h)
/-- cordwain/cordwainlaw17.all -/
def c12 (a0 : HV) (s : HS) (Q : HV → HS → Prop) : Prop :=
  HC Tryz.prog 8 [a0, (.lit (.int .i64 5))] s (fun r1 s2 => bindO (vMk [(0, 1), (1, 1)] [.lit (.string .empty), .lit (.int .i64 0)] [(0, (.lit (.string { data := #[98] }))), (1, r1)]) fun x3 => bindO (vMk [(0, 1), (1, 1)] [.lit (.string .empty), .lit (.int .i64 0)] [(0, (.lit (.string { data := #[97] }))), (1, (.lit (.int .i64 2)))]) fun x4 => hBS s2 2 2 [.lit (.string .empty), .lit (.int .i64 0), .lit (.string .empty), .lit (.int .i64 0)] [(0, x3), (1, x4)] (fun x5 s6 => bindO (vMk [(0, 1), (1, 1)] [.lit (.string .empty), .lit (.int .i64 0)] [(0, (.lit (.string { data := #[98] }))), (1, r1)]) fun x7 => bindO (vMk [(0, 1), (1, 1)] [.lit (.string .empty), .lit (.int .i64 0)] [(0, (.lit (.string { data := #[97] }))), (1, (.lit (.int .i64 2)))]) fun x8 => hBS s6 2 2 [.lit (.string .empty), .lit (.int .i64 0), .lit (.string .empty), .lit (.int .i64 0)] [(0, x7), (1, x8)] (fun x9 s10 => Q (.tup [x5, x9]) s10)))
theorem c12_eq (a0 : HV) (s : HS) (Q : HV → HS → Prop) : (match Tryz.f12.body with | some c => hwp Tryz.prog (fun p => none) false 1 c (hretQ Tryz.prog Tryz.f12.results.toList Q) (([a0] : List HV) ++ List.replicate (Tryz.f12.ntmps - 1) (.lit undef)) s | none => False) = c12 a0 s Q := by kernel_rfl
theorem HC12 {a0 : HV} {s : HS} {Q : HV → HS → Prop} (h : c12 a0 s Q) : HC Tryz.prog 12 [a0] s Q := HC_by Tryz.func12 (by have := c12_eq a0 s Q; exact this.mpr h)
/-- cordwain/cordwainlaw17.awake -/
def c5 (s : HS) (Q : HV → HS → Prop) : Prop :=
  HC Tryz.prog 6 [(.lit (.int .i64 10)), (.lit (.int .i64 5)), (.lit (.int .i64 0)), (.lit (.bool false))] s (fun r1 s2 => bindO (vExtract r1 0) fun x3 => bindO (vExtract r1 1) fun x4 => HC Tryz.prog 6 [(.lit (.int .i64 0)), (.lit (.int .i64 5)), (.lit (.int .i64 0)), (.lit (.bool false))] s2 (fun r5 s6 => bindO (vExtract r5 0) fun x7 => bindO (vExtract r5 1) fun x8 => Join (fun K9 => bindO (vCmp (Tryz.prog.underlying 26) .neq x4 (.lit (.int .i64 0))) fun x12 => hcond x12 (K9 [(.lit (.bool true))] s6) (bindO (vCmp (Tryz.prog.underlying 25) .eql x3 (.lit (.pointer none))) fun x13 => hcond x13 (K9 [(.lit (.bool true))] s6) (bindO (vCmp (Tryz.prog.underlying 26) .neq x8 (.lit (.int .i64 1))) fun x14 => K9 [x14] s6))) (fun y10 s11 => hcond (y10.headD .junk) (Q (.lit (.bool false)) s11) (HC Tryz.prog 12 [(.lit (.int .i64 3))] s11 (fun r15 s16 => bindO (vExtract r15 0) fun x17 => bindO (vExtract r15 1) fun x18 => hBS s16 1 1 [.lit (.string .empty)] [(0, (.lit (.string { data := #[98] })))] (fun x19 s20 => HC Tryz.prog 13 [x3, (.lit (.string { data := #[] })), x19, x17, (.lit (.int .i64 0))] s20 (fun r21 s22 => bindO (vExtract r21 0) fun x23 => bindO (vExtract r21 1) fun x24 => bindO (vExtract r21 2) fun x25 => HC Tryz.prog 14 [x3, x23, x24, (.lit (.int .i64 0))] s22 (fun r26 s27 => bindO (vExtract r26 0) fun x28 => bindO (vExtract r26 1) fun x29 => bindO (vCmp (Tryz.prog.underlying 9) .eql x23 (.lit (.string { data := #[109, 49] }))) fun x30 => hcond x30 (bindO (vCmp (Tryz.prog.underlying 3) .eql x24 (.lit (.int .i64 1))) fun x31 => hcond x31 (bindO (vCmp (Tryz.prog.underlying 26) .eql x25 (.lit (.int .i64 0))) fun x32 => hcond x32 (bindO (vLenT (Tryz.prog.underlying 46) s27 x28) fun x33 => bindO (vCmp (Tryz.prog.underlying 3) .eql x33 (.lit (.int .i64 3))) fun x34 => hcond x34 (bindO (vCmp (Tryz.prog.underlying 26) .eql x29 (.lit (.int .i64 0))) fun x35 => hcond x35 (HC Tryz.prog 15 [x3] s27 (fun r36 s37 => bindO (vCmp (Tryz.prog.underlying 3) .eql r36 (.lit (.int .i64 4))) fun x38 => hcond x38 (HC Tryz.prog 16 [x3, (.lit (.string { data := #[109, 49] })), (.lit (.int .i64 2)), (.lit (.int .i64 0))] s37 (fun r39 s40 => bindO (vCmp (Tryz.prog.underlying 26) .eql r39 (.lit (.int .i64 12))) fun x41 => Q x41 s40)) (Q (.lit (.bool false)) s37))) (Q (.lit (.bool false)) s27)) (Q (.lit (.bool false)) s27)) (Q (.lit (.bool false)) s27)) (Q (.lit (.bool false)) s27)) (Q (.lit (.bool false)) s27)))))))))
theorem c5_eq (s : HS) (Q : HV → HS → Prop) : (match Tryz.f5.body with | some c => hwp Tryz.prog (fun p => if p = 30 then some [29] else none) false 1 c (hretQ Tryz.prog Tryz.f5.results.toList Q) (([] : List HV) ++ List.replicate (Tryz.f5.ntmps - 0) (.lit undef)) s | none => False) = c5 s Q := by kernel_rfl
theorem HC5 {s : HS} {Q : HV → HS → Prop} (h : c5 s Q) : HC Tryz.prog 5 [] s Q := HC_by Tryz.func5 (by have := c5_eq s Q; exact this.mpr h)
/-- (*cordwain/group.Group).Members -/
def c29 (a0 : HV) (s : HS) (Q : HV → HS → Prop) : Prop :=
  bindO (vCmp (Tryz.prog.underlying 25) .eql a0 (.lit (.pointer none))) fun x1 => hcond x1 (Q (.lit (.slice none 0 0)) s) (bindO (vNil a0) fun x2 => bindO (vField 9 x2) fun x3 => bindO (vLoad s x3 1 false) fun x4 => bindO (vLenT (Tryz.prog.underlying 51) s x4) fun x5 => HLoop (fun y7 s8 K6 => bindO (vBin .lss (y7.tail.headD .junk) x5) fun x9 => hcond x9 (bindO (vIdx 1 x4 (y7.tail.headD .junk)) fun x10 => bindO (vLoad s8 x10 1 false) fun x11 => bindO (vNil x11) fun x12 => bindO (vField 0 x12) fun x13 => bindO (vLoad s8 x13 1 false) fun x14 => hBS s8 1 1 [.lit (.string .empty)] [(0, x14)] (fun x15 s16 => hAppend s16 1 16 (y7.headD .junk) x15 (fun x17 s18 => bindO (vBin .add (y7.tail.headD .junk) (.lit (.int .i64 1))) fun x19 => K6 [x17, x19] s18))) (Q (y7.headD .junk) s8)) [(.lit (.slice none 0 0)), (.lit (.int .i64 0))] s)
theorem c29_eq (a0 : HV) (s : HS) (Q : HV → HS → Prop) : (match Tryz.f29.body with | some c => hwp Tryz.prog (fun p => if p = 58 then some [2, 12] else none) false 1 c (hretQ Tryz.prog Tryz.f29.results.toList Q) (([a0] : List HV) ++ List.replicate (Tryz.f29.ntmps - 1) (.lit undef)) s | none => False) = c29 a0 s Q := by kernel_rfl
theorem HC29 {a0 : HV} {s : HS} {Q : HV → HS → Prop} (h : c29 a0 s Q) : HC Tryz.prog 29 [a0] s Q := HC_by Tryz.func29 (by have := c29_eq a0 s Q; exact this.mpr h)
/-- (*cordwain/group.Group).Gen -/
def c27 (a0 : HV) (s : HS) (Q : HV → HS → Prop) : Prop :=
  bindO (vCmp (Tryz.prog.underlying 25) .eql a0 (.lit (.pointer none))) fun x1 => hcond x1 (Q (.lit (.int .i64 0)) s) (bindO (vNil a0) fun x2 => bindO (vField 4 x2) fun x3 => bindO (vLoad s x3 1 false) fun x4 => Q x4 s)
theorem c27_eq (a0 : HV) (s : HS) (Q : HV → HS → Prop) : (match Tryz.f27.body with | some c => hwp Tryz.prog (fun p => none) false 1 c (hretQ Tryz.prog Tryz.f27.results.toList Q) (([a0] : List HV) ++ List.replicate (Tryz.f27.ntmps - 1) (.lit undef)) s | none => False) = c27 a0 s Q := by kernel_rfl
theorem HC27 {a0 : HV} {s : HS} {Q : HV → HS → Prop} (h : c27 a0 s Q) : HC Tryz.prog 27 [a0] s Q := HC_by Tryz.func27 (by have := c27_eq a0 s Q; exact this.mpr h)
/-- (*cordwain/group.Group).Leave$1 -/
def c56 (a0 a1 : HV) (s : HS) (Q : HV → HS → Prop) : Prop :=
  bindO (vNil a0) fun x1 => bindO (vField 0 x1) fun x2 => bindO (vLoad s x2 1 false) fun x3 => bindO (vLoad s a1 1 false) fun x4 => bindO (vCmp (Tryz.prog.underlying 9) .eql x3 x4) fun x5 => Q x5 s
theorem c56_eq (a0 a1 : HV) (s : HS) (Q : HV → HS → Prop) : (match Tryz.f56.body with | some c => hwp Tryz.prog (fun p => none) false 1 c (hretQ Tryz.prog Tryz.f56.results.toList Q) (([a0, a1] : List HV) ++ List.replicate (Tryz.f56.ntmps - 2) (.lit undef)) s | none => False) = c56 a0 a1 s Q := by kernel_rfl
theorem HC56 {a0 a1 : HV} {s : HS} {Q : HV → HS → Prop} (h : c56 a0 a1 s Q) : HC Tryz.prog 56 [a0, a1] s Q := HC_by Tryz.func56 (by have := c56_eq a0 a1 s Q; exact this.mpr h)
/-- (*cordwain/group.Group).Leave -/
def c21 (a0 a1 a2 a3 : HV) (s : HS) (Q : HV → HS → Prop) : Prop :=
  hBox s a1 (fun x1 s2 => HC Tryz.prog 23 [a0, a2, a3] s2 (fun r3 s4 => Join (fun K5 => bindO (vCmp (Tryz.prog.underlying 25) .eql a0 (.lit (.pointer none))) fun x8 => hcond x8 (K5 [(.lit (.bool true))] s4) (bindO (vLoad s4 x1 1 false) fun x9 => HC Tryz.prog 35 [a0, x9] s4 (fun r10 s11 => bindO (vCmp (Tryz.prog.underlying 79) .eql r10 (.lit (.pointer none))) fun x12 => K5 [x12] s11))) (fun y6 s7 => hcond (y6.headD .junk) (Q (.lit (.int .i64 13)) s7) (HC Tryz.prog 55 [a0, (.func (.func 56) [x1])] s7 (fun r13 s14 => Join (fun K15 => Join (fun K18 => bindO (vNil a0) fun x21 => bindO (vField 3 x21) fun x22 => bindO (vLoad s14 x22 1 false) fun x23 => bindO (vCmp (Tryz.prog.underlying 3) .neq x23 (.lit (.int .i64 2))) fun x24 => hcond x24 (K18 [(.lit (.bool true))] s14) (bindO (vNil a0) fun x25 => bindO (vField 9 x25) fun x26 => bindO (vLoad s14 x26 1 false) fun x27 => bindO (vLenT (Tryz.prog.underlying 51) s14 x27) fun x28 => bindO (vCmp (Tryz.prog.underlying 3) .eql x28 (.lit (.int .i64 0))) fun x29 => K18 [x29] s14)) (fun y19 s20 => hcond (y19.headD .junk) (HC Tryz.prog 39 [a0] s20 (fun r30 s31 => K15 [] s31)) (K15 [] s20))) (fun y16 s17 => HC Tryz.prog 40 [a0] s17 (fun r32 s33 => Q (.lit (.int .i64 0)) s33)))))))
theorem c21_eq (a0 a1 a2 a3 : HV) (s : HS) (Q : HV → HS → Prop) : (match Tryz.f21.body with | some c => hwp Tryz.prog (fun p => if p = 14 then some [20] else if p = 31 then some [] else if p = 62 then some [36] else none) false 1 c (hretQ Tryz.prog Tryz.f21.results.toList Q) (([a0, a1, a2, a3] : List HV) ++ List.replicate (Tryz.f21.ntmps - 4) (.lit undef)) s | none => False) = c21 a0 a1 a2 a3 s Q := by kernel_rfl
theorem HC21 {a0 a1 a2 a3 : HV} {s : HS} {Q : HV → HS → Prop} (h : c21 a0 a1 a2 a3 s Q) : HC Tryz.prog 21 [a0, a1, a2, a3] s Q := HC_by Tryz.func21 (by have := c21_eq a0 a1 a2 a3 s Q; exact this.mpr h)
/-- (*cordwain/group.Group).Shares -/
def c34 (a0 : HV) (s : HS) (Q : HV → HS → Prop) : Prop :=
  Join (fun K1 => bindO (vCmp (Tryz.prog.underlying 25) .eql a0 (.lit (.pointer none))) fun x4 => hcond x4 (K1 [(.lit (.bool true))] s) (bindO (vNil a0) fun x5 => bindO (vField 3 x5) fun x6 => bindO (vLoad s x6 1 false) fun x7 => bindO (vBin .lss x7 (.lit (.int .i64 3))) fun x8 => K1 [x8] s)) (fun y2 s3 => hcond (y2.headD .junk) (Q (.lit (.slice none 0 0)) s3) (bindO (vNil a0) fun x9 => bindO (vField 10 x9) fun x10 => bindO (vLoad s3 x10 1 false) fun x11 => bindO (vLenT (Tryz.prog.underlying 52) s3 x11) fun x12 => HLoop (fun y14 s15 K13 => bindO (vBin .lss (y14.tail.headD .junk) x12) fun x16 => hcond x16 (bindO (vIdx 2 x11 (y14.tail.headD .junk)) fun x17 => bindO (vLoad s15 x17 2 true) fun x18 => hNew s15 (.cells [.lit (.string .empty), .lit (.slice none 0 0)]) (fun id => .ptr id 0) (fun x19 s20 => hStore s20 x19 x18 2 (fun s21 => bindO (vField 0 x19) fun x22 => bindO (vLoad s21 x22 1 false) fun x23 => bindO (vField 1 x19) fun x24 => bindO (vLoad s21 x24 1 false) fun x25 => HC Tryz.prog 61 [x25] s21 (fun r26 s27 => (vLoad s27 x22 1 false = vLoad s21 x22 1 false ∧ bindO (vMk [(0, 1), (1, 1)] [.lit (.string .empty), .lit (.slice none 0 0)] [(0, x23), (1, r26)]) fun x28 => hBS s27 2 1 [.lit (.string .empty), .lit (.slice none 0 0)] [(0, x28)] (fun x29 s30 => hAppend s30 2 40 (y14.headD .junk) x29 (fun x31 s32 => bindO (vBin .add (y14.tail.headD .junk) (.lit (.int .i64 1))) fun x33 => K13 [x31, x33] s32))))))) (Q (y14.headD .junk) s15)) [(.lit (.slice none 0 0)), (.lit (.int .i64 0))] s3))
theorem c34_eq (a0 : HV) (s : HS) (Q : HV → HS → Prop) : (match Tryz.f34.body with | some c => hwp Tryz.prog (fun p => if p = 6 then some [13] else if p = 58 then some [2, 19] else none) false 1 c (hretQ Tryz.prog Tryz.f34.results.toList Q) (([a0] : List HV) ++ List.replicate (Tryz.f34.ntmps - 1) (.lit undef)) s | none => False) = c34 a0 s Q := by kernel_rfl
theorem HC34 {a0 : HV} {s : HS} {Q : HV → HS → Prop} (h : c34 a0 s Q) : HC Tryz.prog 34 [a0] s Q := HC_by Tryz.func34 (by have := c34_eq a0 s Q; exact this.mpr h)
/-- (*cordwain/group.Group).Fence -/
def c25 (a0 a1 a2 : HV) (s : HS) (Q : HV → HS → Prop) : Prop :=
  HC Tryz.prog 60 [a0, a1, a2] s (fun r1 s2 => bindO (vExtract r1 0) fun x3 => bindO (vExtract r1 1) fun x4 => Q x4 s2)
theorem c25_eq (a0 a1 a2 : HV) (s : HS) (Q : HV → HS → Prop) : (match Tryz.f25.body with | some c => hwp Tryz.prog (fun p => none) false 1 c (hretQ Tryz.prog Tryz.f25.results.toList Q) (([a0, a1, a2] : List HV) ++ List.replicate (Tryz.f25.ntmps - 3) (.lit undef)) s | none => False) = c25 a0 a1 a2 s Q := by kernel_rfl
theorem HC25 {a0 a1 a2 : HV} {s : HS} {Q : HV → HS → Prop} (h : c25 a0 a1 a2 s Q) : HC Tryz.prog 25 [a0, a1, a2] s Q := HC_by Tryz.func25 (by have := c25_eq a0 a1 a2 s Q; exact this.mpr h)
/-- cordwain/cordwainref1.Decimal -/
def c49 (a0 : HV) (s : HS) (Q : HV → HS → Prop) : Prop :=
  bindO (vToInt .u64 a0) fun x1 => Join (fun K2 => bindO (vBin .lss a0 (.lit (.int .i64 0))) fun x5 => hcond x5 (bindO (vUn .neg x1) fun x6 => K2 [x6, (.lit (.string { data := #[45] }))] s) (K2 [x1, (.lit (.string { data := #[] }))] s)) (fun y3 s4 => HLoop (fun y8 s9 K7 => Join (fun K10 => bindO (vBin .gtr (y8.headD .junk) (.lit (.int .u64 0))) fun x13 => hcond x13 (K10 [(.lit (.bool true))] s9) (bindO (vLenT (Tryz.prog.underlying 110) s9 (y8.tail.headD .junk)) fun x14 => bindO (vCmp (Tryz.prog.underlying 3) .eql x14 (.lit (.int .i64 0))) fun x15 => K10 [x15] s9)) (fun y11 s12 => hcond (y11.headD .junk) (bindO (vBin .rem (y8.headD .junk) (.lit (.int .u64 10))) fun x16 => bindO (vBin .add (.lit (.int .u64 48)) x16) fun x17 => bindO (vToInt .u8 x17) fun x18 => hBS s12 1 1 [.lit (.int .u8 0)] [(0, x18)] (fun x19 s20 => hAppend s20 1 1 x19 (y8.tail.headD .junk) (fun x21 s22 => bindO (vBin .quo (y8.headD .junk) (.lit (.int .u64 10))) fun x23 => K7 [x23, x21] s22))) (bindO ((if isStrHV (y8.tail.headD .junk) then none else vToStr s12 (y8.tail.headD .junk))) fun x24 => bindO (vBin .add (y3.tail.headD .junk) x24) fun x25 => Q x25 s12))) [(y3.headD .junk), (.lit (.slice none 0 0))] s4)
theorem c49_eq (a0 : HV) (s : HS) (Q : HV → HS → Prop) : (match Tryz.f49.body with | some c => hwp Tryz.prog (fun p => if p = 15 then some [3, 4] else if p = 252 then some [3, 5] else if p = 1008 then some [18] else none) false 1 c (hretQ Tryz.prog Tryz.f49.results.toList Q) (([a0] : List HV) ++ List.replicate (Tryz.f49.ntmps - 1) (.lit undef)) s | none => False) = c49 a0 s Q := by kernel_rfl
theorem HC49 {a0 : HV} {s : HS} {Q : HV → HS → Prop} (h : c49 a0 s Q) : HC Tryz.prog 49 [a0] s Q := HC_by Tryz.func49 (by have := c49_eq a0 s Q; exact this.mpr h)
/-- (*cordwain/group.Group).Leader -/
def c31 (a0 : HV) (s : HS) (Q : HV → HS → Prop) : Prop :=
  Join (fun K1 => bindO (vCmp (Tryz.prog.underlying 25) .eql a0 (.lit (.pointer none))) fun x4 => hcond x4 (K1 [(.lit (.bool true))] s) (bindO (vNil a0) fun x5 => bindO (vField 9 x5) fun x6 => bindO (vLoad s x6 1 false) fun x7 => bindO (vLenT (Tryz.prog.underlying 51) s x7) fun x8 => bindO (vCmp (Tryz.prog.underlying 3) .eql x8 (.lit (.int .i64 0))) fun x9 => K1 [x9] s)) (fun y2 s3 => hcond (y2.headD .junk) (Q (.lit (.string { data := #[] })) s3) (bindO (vNil a0) fun x10 => bindO (vField 9 x10) fun x11 => bindO (vLoad s3 x11 1 false) fun x12 => bindO (vIdx 1 x12 (.lit (.int .i64 0))) fun x13 => bindO (vLoad s3 x13 1 false) fun x14 => bindO (vNil x14) fun x15 => bindO (vField 0 x15) fun x16 => bindO (vLoad s3 x16 1 false) fun x17 => Q x17 s3))
theorem c31_eq (a0 : HV) (s : HS) (Q : HV → HS → Prop) : (match Tryz.f31.body with | some c => hwp Tryz.prog (fun p => if p = 6 then some [12] else none) false 1 c (hretQ Tryz.prog Tryz.f31.results.toList Q) (([a0] : List HV) ++ List.replicate (Tryz.f31.ntmps - 1) (.lit undef)) s | none => False) = c31 a0 s Q := by kernel_rfl
theorem HC31 {a0 : HV} {s : HS} {Q : HV → HS → Prop} (h : c31 a0 s Q) : HC Tryz.prog 31 [a0] s Q := HC_by Tryz.func31 (by have := c31_eq a0 s Q; exact this.mpr h)
/-- cordwain/cordwainref1.Has -/
def c87 (a0 a1 : HV) (s : HS) (Q : HV → HS → Prop) : Prop :=
  HLoop (fun y2 s3 K1 => bindO (vLenT (Tryz.prog.underlying 33) s3 a0) fun x4 => bindO (vBin .lss (y2.headD .junk) x4) fun x5 => hcond x5 (bindO (vIdx 1 a0 (y2.headD .junk)) fun x6 => bindO (vLoad s3 x6 1 false) fun x7 => bindO (vCmp (Tryz.prog.underlying 9) .eql x7 a1) fun x8 => hcond x8 (Q (.lit (.bool true)) s3) (bindO (vBin .add (y2.headD .junk) (.lit (.int .i64 1))) fun x9 => K1 [x9] s3)) (Q (.lit (.bool false)) s3)) [(.lit (.int .i64 0))] s
theorem c87_eq (a0 a1 : HV) (s : HS) (Q : HV → HS → Prop) : (match Tryz.f87.body with | some c => hwp Tryz.prog (fun p => if p = 26 then some [5] else none) false 1 c (hretQ Tryz.prog Tryz.f87.results.toList Q) (([a0, a1] : List HV) ++ List.replicate (Tryz.f87.ntmps - 2) (.lit undef)) s | none => False) = c87 a0 a1 s Q := by kernel_rfl
theorem HC87 {a0 a1 : HV} {s : HS} {Q : HV → HS → Prop} (h : c87 a0 a1 s Q) : HC Tryz.prog 87 [a0, a1] s Q := HC_by Tryz.func87 (by have := c87_eq a0 a1 s Q; exact this.mpr h)
/-- cordwain/cordwainalike.Sum -/
def c11 (a0 a1 : HV) (s : HS) (Q : HV → HS → Prop) : Prop :=
  HLoop (fun y2 s3 K1 => bindO (vLenT (Tryz.prog.underlying 75) s3 a1) fun x4 => bindO (vBin .lss (y2.tail.headD .junk) x4) fun x5 => hcond x5 (Join (fun K6 => bindO (vBin .gtr (y2.headD .junk) (.lit (.int .i64 1099511627776))) fun x9 => hcond x9 (K6 [(.lit (.bool true))] s3) (bindO (vIdx 1 a1 (y2.tail.headD .junk)) fun x10 => bindO (vLoad s3 x10 1 false) fun x11 => bindO (vBin .sub (.lit (.int .i64 1099511627776)) (y2.headD .junk)) fun x12 => bindO (vBin .gtr x11 x12) fun x13 => K6 [x13] s3)) (fun y7 s8 => hcond (y7.headD .junk) (Q (.lit (.int .i64 1099511627776)) s8) (bindO (vIdx 1 a1 (y2.tail.headD .junk)) fun x14 => bindO (vLoad s8 x14 1 false) fun x15 => bindO (vBin .add (y2.headD .junk) x15) fun x16 => bindO (vBin .add (y2.tail.headD .junk) (.lit (.int .i64 1))) fun x17 => K1 [x16, x17] s8))) (Q (y2.headD .junk) s3)) [a0, (.lit (.int .i64 0))] s
theorem c11_eq (a0 a1 : HV) (s : HS) (Q : HV → HS → Prop) : (match Tryz.f11.body with | some c => hwp Tryz.prog (fun p => if p = 26 then some [0, 5] else if p = 840 then some [22] else none) false 1 c (hretQ Tryz.prog Tryz.f11.results.toList Q) (([a0, a1] : List HV) ++ List.replicate (Tryz.f11.ntmps - 2) (.lit undef)) s | none => False) = c11 a0 a1 s Q := by kernel_rfl
theorem HC11 {a0 a1 : HV} {s : HS} {Q : HV → HS → Prop} (h : c11 a0 a1 s Q) : HC Tryz.prog 11 [a0, a1] s Q := HC_by Tryz.func11 (by have := c11_eq a0 a1 s Q; exact this.mpr h)
/-- cordwain/cordwainlaw17.small -/
def c4 (a0 : HV) (s : HS) (Q : HV → HS → Prop) : Prop :=
  HLoop (fun y2 s3 K1 => Join (fun K4 => bindO (vLenT (Tryz.prog.underlying 22) s3 a0) fun x7 => bindO (vBin .lss (y2.tail.headD .junk) x7) fun x8 => hcond x8 (bindO (vBin .leq (y2.headD .junk) (.lit (.int .i64 1000))) fun x9 => K4 [x9] s3) (K4 [(.lit (.bool false))] s3)) (fun y5 s6 => hcond (y5.headD .junk) (bindO (vIdx 5 a0 (y2.tail.headD .junk)) fun x10 => bindO (vField 1 x10) fun x11 => bindO (vLoad s6 x11 1 false) fun x12 => bindO (vLenT (Tryz.prog.underlying 9) s6 x12) fun x13 => bindO (vIdx 5 a0 (y2.tail.headD .junk)) fun x14 => bindO (vField 2 x14) fun x15 => bindO (vLoad s6 x15 1 false) fun x16 => bindO (vLenT (Tryz.prog.underlying 33) s6 x16) fun x17 => hBS s6 1 3 [.lit (.int .i64 0), .lit (.int .i64 0), .lit (.int .i64 0)] [(0, x13), (1, x17), (2, (.lit (.int .i64 1)))] (fun x18 s19 => HC Tryz.prog 11 [(y2.headD .junk), x18] s19 (fun r20 s21 => HLoop (fun y23 s24 K22 => Join (fun K25 => bindO (vIdx 5 a0 (y2.tail.headD .junk)) fun x28 => bindO (vField 2 x28) fun x29 => bindO (vLoad s24 x29 1 false) fun x30 => bindO (vLenT (Tryz.prog.underlying 33) s24 x30) fun x31 => bindO (vBin .lss (y23.tail.headD .junk) x31) fun x32 => hcond x32 (bindO (vBin .leq (y23.headD .junk) (.lit (.int .i64 1000))) fun x33 => K25 [x33] s24) (K25 [(.lit (.bool false))] s24)) (fun y26 s27 => hcond (y26.headD .junk) (bindO (vIdx 5 a0 (y2.tail.headD .junk)) fun x34 => bindO (vField 2 x34) fun x35 => bindO (vLoad s27 x35 1 false) fun x36 => bindO (vIdx 1 x36 (y23.tail.headD .junk)) fun x37 => bindO (vLoad s27 x37 1 false) fun x38 => bindO (vLenT (Tryz.prog.underlying 9) s27 x38) fun x39 => hBS s27 1 1 [.lit (.int .i64 0)] [(0, x39)] (fun x40 s41 => HC Tryz.prog 11 [(y23.headD .junk), x40] s41 (fun r42 s43 => bindO (vBin .add (y23.tail.headD .junk) (.lit (.int .i64 1))) fun x44 => K22 [r42, x44] s43))) (bindO (vBin .add (y2.tail.headD .junk) (.lit (.int .i64 1))) fun x45 => K1 [(y23.headD .junk), x45] s27))) [r20, (.lit (.int .i64 0))] s21))) (bindO (vBin .leq (y2.headD .junk) (.lit (.int .i64 1000))) fun x46 => hcond x46 (bindO (vLenT (Tryz.prog.underlying 22) s6 a0) fun x47 => bindO (vBin .leq x47 (.lit (.int .i64 80))) fun x48 => Q x48 s6) (Q (.lit (.bool false)) s6)))) [(.lit (.int .i64 0)), (.lit (.int .i64 0))] s
theorem c4_eq (a0 : HV) (s : HS) (Q : HV → HS → Prop) : (match Tryz.f4.body with | some c => hwp Tryz.prog (fun p => if p = 58 then some [3, 4] else if p = 232 then some [13] else if p = 7462 then some [3, 5] else if p = 29848 then some [42] else none) false 1 c (hretQ Tryz.prog Tryz.f4.results.toList Q) (([a0] : List HV) ++ List.replicate (Tryz.f4.ntmps - 1) (.lit undef)) s | none => False) = c4 a0 s Q := by kernel_rfl
theorem HC4 {a0 : HV} {s : HS} {Q : HV → HS → Prop} (h : c4 a0 s Q) : HC Tryz.prog 4 [a0] s Q := HC_by Tryz.func4 (by have := c4_eq a0 s Q; exact this.mpr h)
/-- cordwain/cordwainref16.SameSlots -/
def c19 (a0 a1 : HV) (s : HS) (Q : HV → HS → Prop) : Prop :=
  bindO (vLenT (Tryz.prog.underlying 46) s a0) fun x1 => bindO (vLenT (Tryz.prog.underlying 46) s a1) fun x2 => bindO (vCmp (Tryz.prog.underlying 3) .neq x1 x2) fun x3 => hcond x3 (Q (.lit (.bool false)) s) (HLoop (fun y5 s6 K4 => bindO (vLenT (Tryz.prog.underlying 46) s6 a0) fun x7 => bindO (vBin .lss (y5.headD .junk) x7) fun x8 => hcond x8 (bindO (vIdx 2 a0 (y5.headD .junk)) fun x9 => bindO (vLoad s6 x9 2 true) fun x10 => bindO (vIdx 2 a1 (y5.headD .junk)) fun x11 => bindO (vLoad s6 x11 2 true) fun x12 => bindO (vCmpS [.string, (.int .i64)] .neq x10 x12) fun x13 => hcond x13 (Q (.lit (.bool false)) s6) (bindO (vBin .add (y5.headD .junk) (.lit (.int .i64 1))) fun x14 => K4 [x14] s6)) (Q (.lit (.bool true)) s6)) [(.lit (.int .i64 0))] s)
theorem c19_eq (a0 a1 : HV) (s : HS) (Q : HV → HS → Prop) : (match Tryz.f19.body with | some c => hwp Tryz.prog (fun p => if p = 58 then some [5] else none) false 1 c (hretQ Tryz.prog Tryz.f19.results.toList Q) (([a0, a1] : List HV) ++ List.replicate (Tryz.f19.ntmps - 2) (.lit undef)) s | none => False) = c19 a0 a1 s Q := by kernel_rfl
theorem HC19 {a0 a1 : HV} {s : HS} {Q : HV → HS → Prop} (h : c19 a0 a1 s Q) : HC Tryz.prog 19 [a0, a1] s Q := HC_by Tryz.func19 (by have := c19_eq a0 a1 s Q; exact this.mpr h)
/-- cordwain/cordwainref16.SameShares -/
def c33 (a0 a1 : HV) (s : HS) (Q : HV → HS → Prop) : Prop :=
  bindO (vLenT (Tryz.prog.underlying 52) s a0) fun x1 => bindO (vLenT (Tryz.prog.underlying 52) s a1) fun x2 => bindO (vCmp (Tryz.prog.underlying 3) .neq x1 x2) fun x3 => hcond x3 (Q (.lit (.bool false)) s) (HLoop (fun y5 s6 K4 => bindO (vLenT (Tryz.prog.underlying 52) s6 a0) fun x7 => bindO (vBin .lss (y5.headD .junk) x7) fun x8 => hcond x8 (Join (fun K9 => bindO (vIdx 2 a0 (y5.headD .junk)) fun x12 => bindO (vField 0 x12) fun x13 => bindO (vLoad s6 x13 1 false) fun x14 => bindO (vIdx 2 a1 (y5.headD .junk)) fun x15 => bindO (vField 0 x15) fun x16 => bindO (vLoad s6 x16 1 false) fun x17 => bindO (vCmp (Tryz.prog.underlying 9) .neq x14 x17) fun x18 => hcond x18 (K9 [(.lit (.bool true))] s6) (bindO (vIdx 2 a0 (y5.headD .junk)) fun x19 => bindO (vField 1 x19) fun x20 => bindO (vLoad s6 x20 1 false) fun x21 => bindO (vIdx 2 a1 (y5.headD .junk)) fun x22 => bindO (vField 1 x22) fun x23 => bindO (vLoad s6 x23 1 false) fun x24 => HC Tryz.prog 19 [x21, x24] s6 (fun r25 s26 => bindO (vUn .not r25) fun x27 => K9 [x27] s26))) (fun y10 s11 => hcond (y10.headD .junk) (Q (.lit (.bool false)) s11) (bindO (vBin .add (y5.headD .junk) (.lit (.int .i64 1))) fun x28 => K4 [x28] s11))) (Q (.lit (.bool true)) s6)) [(.lit (.int .i64 0))] s)
theorem c33_eq (a0 a1 : HV) (s : HS) (Q : HV → HS → Prop) : (match Tryz.f33.body with | some c => hwp Tryz.prog (fun p => if p = 58 then some [5] else if p = 932 then some [41] else none) false 1 c (hretQ Tryz.prog Tryz.f33.results.toList Q) (([a0, a1] : List HV) ++ List.replicate (Tryz.f33.ntmps - 2) (.lit undef)) s | none => False) = c33 a0 a1 s Q := by kernel_rfl
theorem HC33 {a0 a1 : HV} {s : HS} {Q : HV → HS → Prop} (h : c33 a0 a1 s Q) : HC Tryz.prog 33 [a0, a1] s Q := HC_by Tryz.func33 (by have := c33_eq a0 a1 s Q; exact this.mpr h)
/-- cordwain/assign.Slots$1$1 -/
def c102 (a0 a1 : HV) (s : HS) (Q : HV → HS → Prop) : Prop :=
  hBox s a0 (fun x1 s2 => hBox s2 a1 (fun x3 s4 => bindO (vField 0 x1) fun x5 => bindO (vLoad s4 x5 1 false) fun x6 => bindO (vField 0 x3) fun x7 => bindO (vLoad s4 x7 1 false) fun x8 => HC Tryz.prog 103 [x6, x8] s4 (fun r9 s10 => Q r9 s10)))
theorem c102_eq (a0 a1 : HV) (s : HS) (Q : HV → HS → Prop) : (match Tryz.f102.body with | some c => hwp Tryz.prog (fun p => none) false 1 c (hretQ Tryz.prog Tryz.f102.results.toList Q) (([a0, a1] : List HV) ++ List.replicate (Tryz.f102.ntmps - 2) (.lit undef)) s | none => False) = c102 a0 a1 s Q := by kernel_rfl
theorem HC102 {a0 a1 : HV} {s : HS} {Q : HV → HS → Prop} (h : c102 a0 a1 s Q) : HC Tryz.prog 102 [a0, a1] s Q := HC_by Tryz.func102 (by have := c102_eq a0 a1 s Q; exact this.mpr h)
/-- cordwain/cordwainref16.NewGroup -/
def c7 (a0 a1 a2 a3 : HV) (s : HS) (Q : HV → HS → Prop) : Prop :=
  Join (fun K1 => bindO (vBin .lss a0 (.lit (.int .i64 1))) fun x4 => hcond x4 (K1 [(.lit (.bool true))] s) (bindO (vBin .gtr a0 (.lit (.int .i64 1000000))) fun x5 => hcond x5 (K1 [(.lit (.bool true))] s) (bindO (vBin .lss a1 (.lit (.int .i64 1))) fun x6 => hcond x6 (K1 [(.lit (.bool true))] s) (bindO (vBin .gtr a1 (.lit (.int .i64 1000000))) fun x7 => hcond x7 (K1 [(.lit (.bool true))] s) (bindO (vBin .lss a2 (.lit (.int .i64 0))) fun x8 => hcond x8 (K1 [(.lit (.bool true))] s) (bindO (vBin .gtr a2 (.lit (.int .i64 1099511627776))) fun x9 => K1 [x9] s)))))) (fun y2 s3 => hcond (y2.headD .junk) (Q (.tup [(.lit (.pointer none)), (.lit (.int .i64 1))]) s3) (bindO (vMk [(0, 1), (1, 1), (2, 1), (3, 1), (4, 1), (5, 1), (6, 1), (7, 1), (8, 1), (9, 1), (10, 1)] [.lit (.int .i64 0), .lit (.int .i64 0), .lit (.bool false), .lit (.int .i64 0), .lit (.int .i64 0), .lit (.int .i64 0), .lit (.int .i64 0), .lit (.int .i64 0), .lit (.slice none 0 0), .lit (.slice none 0 0), .lit (.slice none 0 0)] [(0, a0), (1, a1), (4, a2), (2, a3), (3, (.lit (.int .i64 1)))]) fun x10 => hBox s3 x10 (fun x11 s12 => Q (.tup [x11, (.lit (.int .i64 0))]) s12)))
theorem c7_eq (a0 a1 a2 a3 : HV) (s : HS) (Q : HV → HS → Prop) : (match Tryz.f7.body with | some c => hwp Tryz.prog (fun p => if p = 6 then some [31] else none) false 1 c (hretQ Tryz.prog Tryz.f7.results.toList Q) (([a0, a1, a2, a3] : List HV) ++ List.replicate (Tryz.f7.ntmps - 4) (.lit undef)) s | none => False) = c7 a0 a1 a2 a3 s Q := by kernel_rfl
theorem HC7 {a0 a1 a2 a3 : HV} {s : HS} {Q : HV → HS → Prop} (h : c7 a0 a1 a2 a3 s Q) : HC Tryz.prog 7 [a0, a1, a2, a3] s Q := HC_by Tryz.func7 (by have := c7_eq a0 a1 a2 a3 s Q; exact this.mpr h)
/-- (*cordwain/cordwainref16.Group).ready -/
def c52 (a0 : HV) (s : HS) (Q : HV → HS → Prop) : Prop :=
  HLoop (fun y2 s3 K1 => bindO (vNil a0) fun x4 => bindO (vField 8 x4) fun x5 => bindO (vLoad s3 x5 1 false) fun x6 => bindO (vLenT (Tryz.prog.underlying 55) s3 x6) fun x7 => bindO (vBin .lss (y2.headD .junk) x7) fun x8 => hcond x8 (bindO (vNil a0) fun x9 => bindO (vField 8 x9) fun x10 => bindO (vLoad s3 x10 1 false) fun x11 => bindO (vIdx 5 x11 (y2.headD .junk)) fun x12 => bindO (vField 3 x12) fun x13 => bindO (vLoad s3 x13 1 false) fun x14 => bindO (vUn .not x14) fun x15 => hcond x15 (Q (.lit (.bool false)) s3) (bindO (vBin .add (y2.headD .junk) (.lit (.int .i64 1))) fun x16 => K1 [x16] s3)) (Q (.lit (.bool true)) s3)) [(.lit (.int .i64 0))] s
theorem c52_eq (a0 : HV) (s : HS) (Q : HV → HS → Prop) : (match Tryz.f52.body with | some c => hwp Tryz.prog (fun p => if p = 26 then some [3] else none) false 1 c (hretQ Tryz.prog Tryz.f52.results.toList Q) (([a0] : List HV) ++ List.replicate (Tryz.f52.ntmps - 1) (.lit undef)) s | none => False) = c52 a0 s Q := by kernel_rfl
theorem HC52 {a0 : HV} {s : HS} {Q : HV → HS → Prop} (h : c52 a0 s Q) : HC Tryz.prog 52 [a0] s Q := HC_by Tryz.func52 (by have := c52_eq a0 s Q; exact this.mpr h)
/-- (*cordwain/cordwainref16.Group).set -/
def c48 (a0 : HV) (s : HS) (Q : HV → HS → Prop) : Prop :=
  hBS s 5 0 [] [] (fun x1 s2 => bindO (vNil a0) fun x3 => bindO (vField 8 x3) fun x4 => bindO (vLoad s2 x4 1 false) fun x5 => hAppend s2 5 56 x1 x5 (fun x6 s7 => bindO (vNil a0) fun x8 => bindO (vField 8 x8) fun x9 => hStore s7 x9 x6 1 (fun s10 => Q (.tup []) s10)))
theorem c48_eq (a0 : HV) (s : HS) (Q : HV → HS → Prop) : (match Tryz.f48.body with | some c => hwp Tryz.prog (fun p => none) false 1 c (hretQ Tryz.prog Tryz.f48.results.toList Q) (([a0] : List HV) ++ List.replicate (Tryz.f48.ntmps - 1) (.lit undef)) s | none => False) = c48 a0 s Q := by kernel_rfl
theorem HC48 {a0 : HV} {s : HS} {Q : HV → HS → Prop} (h : c48 a0 s Q) : HC Tryz.prog 48 [a0] s Q := HC_by Tryz.func48 (by have := c48_eq a0 s Q; exact this.mpr h)
/-- (*cordwain/cordwainref16.Group).empty -/
def c57 (a0 : HV) (s : HS) (Q : HV → HS → Prop) : Prop :=
  bindO (vNil a0) fun x1 => bindO (vField 3 x1) fun x2 => hStore s x2 (.lit (.int .i64 1)) 1 (fun s3 => bindO (vNil a0) fun x4 => bindO (vField 10 x4) fun x5 => hStore s3 x5 (.lit (.slice none 0 0)) 1 (fun s6 => Q (.tup []) s6))
theorem c57_eq (a0 : HV) (s : HS) (Q : HV → HS → Prop) : (match Tryz.f57.body with | some c => hwp Tryz.prog (fun p => none) false 1 c (hretQ Tryz.prog Tryz.f57.results.toList Q) (([a0] : List HV) ++ List.replicate (Tryz.f57.ntmps - 1) (.lit undef)) s | none => False) = c57 a0 s Q := by kernel_rfl
theorem HC57 {a0 : HV} {s : HS} {Q : HV → HS → Prop} (h : c57 a0 s Q) : HC Tryz.prog 57 [a0] s Q := HC_by Tryz.func57 (by have := c57_eq a0 s Q; exact this.mpr h)
/-- (*cordwain/cordwainref16.Group).keep -/
def c72 (a0 a1 : HV) (s : HS) (Q : HV → HS → Prop) : Prop :=
  HLoop (fun y2 s3 K1 => bindO (vNil a0) fun x4 => bindO (vField 8 x4) fun x5 => bindO (vLoad s3 x5 1 false) fun x6 => bindO (vLenT (Tryz.prog.underlying 55) s3 x6) fun x7 => bindO (vBin .lss (y2.tail.headD .junk) x7) fun x8 => hcond x8 (Join (fun K9 => bindO (vNil a0) fun x12 => bindO (vField 8 x12) fun x13 => bindO (vLoad s3 x13 1 false) fun x14 => bindO (vIdx 5 x14 (y2.tail.headD .junk)) fun x15 => bindO (vLoad s3 x15 5 true) fun x16 => hNew s3 (.cells [.lit (.string .empty), .lit (.slice none 0 0), .lit (.int .i64 0), .lit (.bool false), .lit (.bool false)]) (fun id => .ptr id 0) (fun x17 s18 => hStore s18 x17 x16 5 (fun s19 => Join (fun K20 => bindO (vCmp (Tryz.prog.underlying 3) .eql a1 (.lit (.int .i64 1))) fun x23 => hcond x23 (bindO (vField 3 x17) fun x24 => bindO (vLoad s19 x24 1 false) fun x25 => hcond x25 (K20 [(.lit (.bool true))] s19) (bindO (vCmp (Tryz.prog.underlying 3) .eql a1 (.lit (.int .i64 2))) fun x26 => hcond x26 (bindO (vField 4 x17) fun x27 => bindO (vLoad s19 x27 1 false) fun x28 => hcond x28 (K20 [(.lit (.bool true))] s19) (bindO (vCmp (Tryz.prog.underlying 3) .eql a1 (.lit (.int .i64 3))) fun x29 => hcond x29 (bindO (vNil a0) fun x30 => bindO (vField 6 x30) fun x31 => bindO (vLoad s19 x31 1 false) fun x32 => bindO (vField 2 x17) fun x33 => bindO (vLoad s19 x33 1 false) fun x34 => bindO (vBin .sub x32 x34) fun x35 => bindO (vNil a0) fun x36 => bindO (vField 0 x36) fun x37 => bindO (vLoad s19 x37 1 false) fun x38 => bindO (vBin .leq x35 x38) fun x39 => K20 [x39] s19) (K20 [(.lit (.bool false))] s19))) (bindO (vCmp (Tryz.prog.underlying 3) .eql a1 (.lit (.int .i64 3))) fun x40 => hcond x40 (bindO (vNil a0) fun x41 => bindO (vField 6 x41) fun x42 => bindO (vLoad s19 x42 1 false) fun x43 => bindO (vField 2 x17) fun x44 => bindO (vLoad s19 x44 1 false) fun x45 => bindO (vBin .sub x43 x45) fun x46 => bindO (vNil a0) fun x47 => bindO (vField 0 x47) fun x48 => bindO (vLoad s19 x48 1 false) fun x49 => bindO (vBin .leq x46 x49) fun x50 => K20 [x50] s19) (K20 [(.lit (.bool false))] s19)))) (bindO (vCmp (Tryz.prog.underlying 3) .eql a1 (.lit (.int .i64 2))) fun x51 => hcond x51 (bindO (vField 4 x17) fun x52 => bindO (vLoad s19 x52 1 false) fun x53 => hcond x53 (K20 [(.lit (.bool true))] s19) (bindO (vCmp (Tryz.prog.underlying 3) .eql a1 (.lit (.int .i64 3))) fun x54 => hcond x54 (bindO (vNil a0) fun x55 => bindO (vField 6 x55) fun x56 => bindO (vLoad s19 x56 1 false) fun x57 => bindO (vField 2 x17) fun x58 => bindO (vLoad s19 x58 1 false) fun x59 => bindO (vBin .sub x57 x59) fun x60 => bindO (vNil a0) fun x61 => bindO (vField 0 x61) fun x62 => bindO (vLoad s19 x62 1 false) fun x63 => bindO (vBin .leq x60 x63) fun x64 => K20 [x64] s19) (K20 [(.lit (.bool false))] s19))) (bindO (vCmp (Tryz.prog.underlying 3) .eql a1 (.lit (.int .i64 3))) fun x65 => hcond x65 (bindO (vNil a0) fun x66 => bindO (vField 6 x66) fun x67 => bindO (vLoad s19 x67 1 false) fun x68 => bindO (vField 2 x17) fun x69 => bindO (vLoad s19 x69 1 false) fun x70 => bindO (vBin .sub x68 x70) fun x71 => bindO (vNil a0) fun x72 => bindO (vField 0 x72) fun x73 => bindO (vLoad s19 x73 1 false) fun x74 => bindO (vBin .leq x71 x74) fun x75 => K20 [x75] s19) (K20 [(.lit (.bool false))] s19)))) (fun y21 s22 => hcond (y21.headD .junk) (bindO (vLoad s22 x17 5 true) fun x76 => hBS s22 5 1 [.lit (.string .empty), .lit (.slice none 0 0), .lit (.int .i64 0), .lit (.bool false), .lit (.bool false)] [(0, x76)] (fun x77 s78 => hAppend s78 5 56 (y2.headD .junk) x77 (fun x79 s80 => K9 [x79] s80))) (K9 [(y2.headD .junk)] s22))))) (fun y10 s11 => bindO (vBin .add (y2.tail.headD .junk) (.lit (.int .i64 1))) fun x81 => K1 [(y10.headD .junk), x81] s11)) (bindO (vLenT (Tryz.prog.underlying 55) s3 (y2.headD .junk)) fun x82 => bindO (vNil a0) fun x83 => bindO (vField 8 x83) fun x84 => bindO (vLoad s3 x84 1 false) fun x85 => bindO (vLenT (Tryz.prog.underlying 55) s3 x85) fun x86 => bindO (vBin .lss x82 x86) fun x87 => bindO (vNil a0) fun x88 => bindO (vField 8 x88) fun x89 => hStore s3 x89 (y2.headD .junk) 1 (fun s90 => Q x87 s90))) [(.lit (.slice none 0 0)), (.lit (.int .i64 0))] s
theorem c72_eq (a0 a1 : HV) (s : HS) (Q : HV → HS → Prop) : (match Tryz.f72.body with | some c => hwp Tryz.prog (fun p => if p = 58 then some [5, 6] else if p = 233 then some [5] else if p = 1865 then some [56] else none) false 1 c (hretQ Tryz.prog Tryz.f72.results.toList Q) (([a0, a1] : List HV) ++ List.replicate (Tryz.f72.ntmps - 2) (.lit undef)) s | none => False) = c72 a0 a1 s Q := by kernel_rfl
theorem HC72 {a0 a1 : HV} {s : HS} {Q : HV → HS → Prop} (h : c72 a0 a1 s Q) : HC Tryz.prog 72 [a0, a1] s Q := HC_by Tryz.func72 (by have := c72_eq a0 a1 s Q; exact this.mpr h)
/-- cordwain/cordwainref16.may -/
def c84 (a0 a1 : HV) (s : HS) (Q : HV → HS → Prop) : Prop :=
  HLoop (fun y2 s3 K1 => bindO (vLenT (Tryz.prog.underlying 111) s3 a0) fun x4 => bindO (vBin .lss (y2.headD .junk) x4) fun x5 => hcond x5 (HLoop (fun y7 s8 K6 => bindO (vBin .lss (y7.headD .junk) (y2.headD .junk)) fun x9 => hcond x9 (bindO (vIdx 2 a0 (y2.headD .junk)) fun x10 => bindO (vField 0 x10) fun x11 => bindO (vLoad s8 x11 1 false) fun x12 => bindO (vIdx 2 a0 (y7.headD .junk)) fun x13 => bindO (vField 0 x13) fun x14 => bindO (vLoad s8 x14 1 false) fun x15 => bindO (vCmp (Tryz.prog.underlying 9) .eql x12 x15) fun x16 => hcond x16 (Q (.lit (.bool false)) s8) (bindO (vBin .add (y7.headD .junk) (.lit (.int .i64 1))) fun x17 => K6 [x17] s8)) (bindO (vBin .add (y2.headD .junk) (.lit (.int .i64 1))) fun x18 => K1 [x18] s8)) [(.lit (.int .i64 0))] s3) (HLoop (fun y20 s21 K19 => bindO (vLenT (Tryz.prog.underlying 41) s21 a1) fun x22 => bindO (vBin .lss (y20.headD .junk) x22) fun x23 => hcond x23 (Join (fun K24 => bindO (vIdx 2 a1 (y20.headD .junk)) fun x27 => bindO (vField 1 x27) fun x28 => bindO (vLoad s21 x28 1 false) fun x29 => bindO (vBin .lss x29 (.lit (.int .i64 0))) fun x30 => hcond x30 (K24 [(.lit (.bool true))] s21) (bindO (vIdx 2 a1 (y20.headD .junk)) fun x31 => bindO (vField 1 x31) fun x32 => bindO (vLoad s21 x32 1 false) fun x33 => bindO (vBin .gtr x33 (.lit (.int .i64 1000))) fun x34 => K24 [x34] s21)) (fun y25 s26 => hcond (y25.headD .junk) (Q (.lit (.bool false)) s26) (HLoop (fun y36 s37 K35 => bindO (vBin .lss (y36.headD .junk) (y20.headD .junk)) fun x38 => hcond x38 (bindO (vIdx 2 a1 (y20.headD .junk)) fun x39 => bindO (vField 0 x39) fun x40 => bindO (vLoad s37 x40 1 false) fun x41 => bindO (vIdx 2 a1 (y36.headD .junk)) fun x42 => bindO (vField 0 x42) fun x43 => bindO (vLoad s37 x43 1 false) fun x44 => bindO (vCmp (Tryz.prog.underlying 9) .eql x41 x44) fun x45 => hcond x45 (Q (.lit (.bool false)) s37) (bindO (vBin .add (y36.headD .junk) (.lit (.int .i64 1))) fun x46 => K35 [x46] s37)) (bindO (vBin .add (y20.headD .junk) (.lit (.int .i64 1))) fun x47 => K19 [x47] s37)) [(.lit (.int .i64 0))] s26))) (Q (.lit (.bool true)) s21)) [(.lit (.int .i64 0))] s3)) [(.lit (.int .i64 0))] s
theorem c84_eq (a0 a1 : HV) (s : HS) (Q : HV → HS → Prop) : (match Tryz.f84.body with | some c => hwp Tryz.prog (fun p => if p = 26 then some [5] else if p = 58 then some [7] else if p = 1682 then some [6] else if p = 1864 then some [50] else if p = 7462 then some [8] else none) false 1 c (hretQ Tryz.prog Tryz.f84.results.toList Q) (([a0, a1] : List HV) ++ List.replicate (Tryz.f84.ntmps - 2) (.lit undef)) s | none => False) = c84 a0 a1 s Q := by kernel_rfl
theorem HC84 {a0 a1 : HV} {s : HS} {Q : HV → HS → Prop} (h : c84 a0 a1 s Q) : HC Tryz.prog 84 [a0, a1] s Q := HC_by Tryz.func84 (by have := c84_eq a0 a1 s Q; exact this.mpr h)
/-- cordwain/cordwainref16.members -/
def c85 (a0 : HV) (s : HS) (Q : HV → HS → Prop) : Prop :=
  HLoop (fun y2 s3 K1 => bindO (vLenT (Tryz.prog.underlying 111) s3 a0) fun x4 => bindO (vBin .lss (y2.tail.headD .junk) x4) fun x5 => hcond x5 (bindO (vLenT (Tryz.prog.underlying 111) s3 (y2.headD .junk)) fun x6 => HLoop (fun y8 s9 K7 => Join (fun K10 => bindO (vBin .gtr (y8.headD .junk) (.lit (.int .i64 0))) fun x13 => hcond x13 (bindO (vBin .sub (y8.headD .junk) (.lit (.int .i64 1))) fun x14 => bindO (vIdx 2 (y2.headD .junk) x14) fun x15 => bindO (vField 0 x15) fun x16 => bindO (vLoad s9 x16 1 false) fun x17 => bindO (vIdx 2 a0 (y2.tail.headD .junk)) fun x18 => bindO (vField 0 x18) fun x19 => bindO (vLoad s9 x19 1 false) fun x20 => bindO (vBin .gtr x17 x20) fun x21 => K10 [x21] s9) (K10 [(.lit (.bool false))] s9)) (fun y11 s12 => hcond (y11.headD .junk) (bindO (vBin .sub (y8.headD .junk) (.lit (.int .i64 1))) fun x22 => K7 [x22] s12) (bindO (vSlice 2 (y2.headD .junk) none (some (y8.headD .junk)) none) fun x23 => bindO (vIdx 2 a0 (y2.tail.headD .junk)) fun x24 => bindO (vLoad s12 x24 2 true) fun x25 => bindO (vSlice 2 (y2.headD .junk) (some (y8.headD .junk)) none none) fun x26 => ((hBS s12 2 0 [] [] (fun x27 s28 => (vLoad s28 x24 2 true = vLoad s12 x24 2 true ∧ ((hAppend s28 2 40 x27 x23 (fun x29 s30 => (vLoad s30 x24 2 true = vLoad s28 x24 2 true ∧ hBS s30 2 1 [.lit (.string .empty), .lit (.slice none 0 0)] [(0, x25)] (fun x31 s32 => hAppend s32 2 40 x29 x31 (fun x33 s34 => hAppend s34 2 40 x33 x26 (fun x35 s36 => bindO (vBin .add (y2.tail.headD .junk) (.lit (.int .i64 1))) fun x37 => K1 [x35, x37] s36)))))) ∧ (hBS s28 2 1 [.lit (.string .empty), .lit (.slice none 0 0)] [(0, x25)] (fun x38 s39 => hAppend s39 2 40 x27 x23 (fun x40 s41 => hAppend s41 2 40 x40 x38 (fun x42 s43 => hAppend s43 2 40 x42 x26 (fun x44 s45 => bindO (vBin .add (y2.tail.headD .junk) (.lit (.int .i64 1))) fun x46 => K1 [x44, x46] s45))))))))) ∧ (hBS s12 2 1 [.lit (.string .empty), .lit (.slice none 0 0)] [(0, x25)] (fun x47 s48 => hBS s48 2 0 [] [] (fun x49 s50 => hAppend s50 2 40 x49 x23 (fun x51 s52 => hAppend s52 2 40 x51 x47 (fun x53 s54 => hAppend s54 2 40 x53 x26 (fun x55 s56 => bindO (vBin .add (y2.tail.headD .junk) (.lit (.int .i64 1))) fun x57 => K1 [x55, x57] s56)))))))))) [x6] s3) (Q (y2.headD .junk) s3)) [(.lit (.slice none 0 0)), (.lit (.int .i64 0))] s
theorem c85_eq (a0 : HV) (s : HS) (Q : HV → HS → Prop) : (match Tryz.f85.body with | some c => hwp Tryz.prog (fun p => if p = 58 then some [3, 4] else if p = 7460 then some [5] else if p = 29840 then some [29] else none) false 1 c (hretQ Tryz.prog Tryz.f85.results.toList Q) (([a0] : List HV) ++ List.replicate (Tryz.f85.ntmps - 1) (.lit undef)) s | none => False) = c85 a0 s Q := by kernel_rfl
theorem HC85 {a0 : HV} {s : HS} {Q : HV → HS → Prop} (h : c85 a0 s Q) : HC Tryz.prog 85 [a0] s Q := HC_by Tryz.func85 (by have := c85_eq a0 s Q; exact this.mpr h)
/-- cordwain/cordwainref16.Topics -/
def c89 (a0 : HV) (s : HS) (Q : HV → HS → Prop) : Prop :=
  HLoop (fun y2 s3 K1 => bindO (vLenT (Tryz.prog.underlying 41) s3 a0) fun x4 => bindO (vBin .lss (y2.tail.headD .junk) x4) fun x5 => hcond x5 (bindO (vLenT (Tryz.prog.underlying 41) s3 (y2.headD .junk)) fun x6 => HLoop (fun y8 s9 K7 => Join (fun K10 => bindO (vBin .gtr (y8.headD .junk) (.lit (.int .i64 0))) fun x13 => hcond x13 (bindO (vBin .sub (y8.headD .junk) (.lit (.int .i64 1))) fun x14 => bindO (vIdx 2 (y2.headD .junk) x14) fun x15 => bindO (vField 0 x15) fun x16 => bindO (vLoad s9 x16 1 false) fun x17 => bindO (vIdx 2 a0 (y2.tail.headD .junk)) fun x18 => bindO (vField 0 x18) fun x19 => bindO (vLoad s9 x19 1 false) fun x20 => bindO (vBin .gtr x17 x20) fun x21 => K10 [x21] s9) (K10 [(.lit (.bool false))] s9)) (fun y11 s12 => hcond (y11.headD .junk) (bindO (vBin .sub (y8.headD .junk) (.lit (.int .i64 1))) fun x22 => K7 [x22] s12) (bindO (vSlice 2 (y2.headD .junk) none (some (y8.headD .junk)) none) fun x23 => bindO (vIdx 2 a0 (y2.tail.headD .junk)) fun x24 => bindO (vLoad s12 x24 2 true) fun x25 => bindO (vSlice 2 (y2.headD .junk) (some (y8.headD .junk)) none none) fun x26 => ((hBS s12 2 0 [] [] (fun x27 s28 => (vLoad s28 x24 2 true = vLoad s12 x24 2 true ∧ ((hAppend s28 2 24 x27 x23 (fun x29 s30 => (vLoad s30 x24 2 true = vLoad s28 x24 2 true ∧ hBS s30 2 1 [.lit (.string .empty), .lit (.int .i64 0)] [(0, x25)] (fun x31 s32 => hAppend s32 2 24 x29 x31 (fun x33 s34 => hAppend s34 2 24 x33 x26 (fun x35 s36 => bindO (vBin .add (y2.tail.headD .junk) (.lit (.int .i64 1))) fun x37 => K1 [x35, x37] s36)))))) ∧ (hBS s28 2 1 [.lit (.string .empty), .lit (.int .i64 0)] [(0, x25)] (fun x38 s39 => hAppend s39 2 24 x27 x23 (fun x40 s41 => hAppend s41 2 24 x40 x38 (fun x42 s43 => hAppend s43 2 24 x42 x26 (fun x44 s45 => bindO (vBin .add (y2.tail.headD .junk) (.lit (.int .i64 1))) fun x46 => K1 [x44, x46] s45))))))))) ∧ (hBS s12 2 1 [.lit (.string .empty), .lit (.int .i64 0)] [(0, x25)] (fun x47 s48 => hBS s48 2 0 [] [] (fun x49 s50 => hAppend s50 2 24 x49 x23 (fun x51 s52 => hAppend s52 2 24 x51 x47 (fun x53 s54 => hAppend s54 2 24 x53 x26 (fun x55 s56 => bindO (vBin .add (y2.tail.headD .junk) (.lit (.int .i64 1))) fun x57 => K1 [x55, x57] s56)))))))))) [x6] s3) (Q (y2.headD .junk) s3)) [(.lit (.slice none 0 0)), (.lit (.int .i64 0))] s
theorem c89_eq (a0 : HV) (s : HS) (Q : HV → HS → Prop) : (match Tryz.f89.body with | some c => hwp Tryz.prog (fun p => if p = 58 then some [3, 4] else if p = 7460 then some [5] else if p = 29840 then some [29] else none) false 1 c (hretQ Tryz.prog Tryz.f89.results.toList Q) (([a0] : List HV) ++ List.replicate (Tryz.f89.ntmps - 1) (.lit undef)) s | none => False) = c89 a0 s Q := by kernel_rfl
theorem HC89 {a0 : HV} {s : HS} {Q : HV → HS → Prop} (h : c89 a0 s Q) : HC Tryz.prog 89 [a0] s Q := HC_by Tryz.func89 (by have := c89_eq a0 s Q; exact this.mpr h)
/-- cordwain/cordwainref16.Slots -/
def c86 (a0 : HV) (s : HS) (Q : HV → HS → Prop) : Prop :=
  HC Tryz.prog 89 [a0] s (fun r1 s2 => HLoop (fun y4 s5 K3 => bindO (vLenT (Tryz.prog.underlying 41) s5 r1) fun x6 => bindO (vBin .lss (y4.tail.headD .junk) x6) fun x7 => hcond x7 (HLoop (fun y9 s10 K8 => bindO (vIdx 2 r1 (y4.tail.headD .junk)) fun x11 => bindO (vField 1 x11) fun x12 => bindO (vLoad s10 x12 1 false) fun x13 => bindO (vBin .lss (y9.tail.headD .junk) x13) fun x14 => hcond x14 (bindO (vIdx 2 r1 (y4.tail.headD .junk)) fun x15 => bindO (vField 0 x15) fun x16 => bindO (vLoad s10 x16 1 false) fun x17 => bindO (vMk [(0, 1), (1, 1)] [.lit (.string .empty), .lit (.int .i64 0)] [(0, x17), (1, (y9.tail.headD .junk))]) fun x18 => hBS s10 2 1 [.lit (.string .empty), .lit (.int .i64 0)] [(0, x18)] (fun x19 s20 => hAppend s20 2 24 (y9.headD .junk) x19 (fun x21 s22 => bindO (vBin .add (y9.tail.headD .junk) (.lit (.int .i64 1))) fun x23 => K8 [x21, x23] s22))) (bindO (vBin .add (y4.tail.headD .junk) (.lit (.int .i64 1))) fun x24 => K3 [(y9.headD .junk), x24] s10)) [(y4.headD .junk), (.lit (.int .i64 0))] s5) (Q (y4.headD .junk) s5)) [(.lit (.slice none 0 0)), (.lit (.int .i64 0))] s2)
theorem c86_eq (a0 : HV) (s : HS) (Q : HV → HS → Prop) : (match Tryz.f86.body with | some c => hwp Tryz.prog (fun p => if p = 122 then some [3, 5] else if p = 7826 then some [3, 6] else none) false 1 c (hretQ Tryz.prog Tryz.f86.results.toList Q) (([a0] : List HV) ++ List.replicate (Tryz.f86.ntmps - 1) (.lit undef)) s | none => False) = c86 a0 s Q := by kernel_rfl
theorem HC86 {a0 : HV} {s : HS} {Q : HV → HS → Prop} (h : c86 a0 s Q) : HC Tryz.prog 86 [a0] s Q := HC_by Tryz.func86 (by have := c86_eq a0 s Q; exact this.mpr h)
/-- cordwain/cordwainref16.shares -/
def c88 (a0 a1 a2 : HV) (s : HS) (Q : HV → HS → Prop) : Prop :=
  HLoop (fun y2 s3 K1 => bindO (vLenT (Tryz.prog.underlying 111) s3 a0) fun x4 => bindO (vBin .lss (y2.tail.headD .junk) x4) fun x5 => hcond x5 (bindO (vIdx 2 a0 (y2.tail.headD .junk)) fun x6 => bindO (vField 0 x6) fun x7 => bindO (vLoad s3 x7 1 false) fun x8 => bindO (vMk [(0, 1), (1, 1)] [.lit (.string .empty), .lit (.slice none 0 0)] [(0, x8)]) fun x9 => hNew s3 (.cells [.lit (.string .empty), .lit (.slice none 0 0)]) (fun id => .ptr id 0) (fun x10 s11 => hStore s11 x10 x9 2 (fun s12 => HLoop (fun y14 s15 K13 => bindO (vLenT (Tryz.prog.underlying 46) s15 a1) fun x16 => bindO (vBin .lss (y14.headD .junk) x16) fun x17 => hcond x17 (Join (fun K18 => bindO (vIdx 1 a2 (y14.headD .junk)) fun x21 => bindO (vLoad s15 x21 1 false) fun x22 => bindO (vCmp (Tryz.prog.underlying 3) .eql x22 (y2.tail.headD .junk)) fun x23 => hcond x23 (bindO (vField 1 x10) fun x24 => bindO (vLoad s15 x24 1 false) fun x25 => bindO (vIdx 2 a1 (y14.headD .junk)) fun x26 => bindO (vLoad s15 x26 2 true) fun x27 => hBS s15 2 1 [.lit (.string .empty), .lit (.int .i64 0)] [(0, x27)] (fun x28 s29 => (vLoad s29 x24 1 false = vLoad s15 x24 1 false ∧ hAppend s29 2 24 x25 x28 (fun x30 s31 => bindO (vField 1 x10) fun x32 => hStore s31 x32 x30 1 (fun s33 => K18 [] s33))))) (K18 [] s15)) (fun y19 s20 => bindO (vBin .add (y14.headD .junk) (.lit (.int .i64 1))) fun x34 => K13 [x34] s20)) (bindO (vLoad s15 x10 2 true) fun x35 => hBS s15 2 1 [.lit (.string .empty), .lit (.slice none 0 0)] [(0, x35)] (fun x36 s37 => hAppend s37 2 40 (y2.headD .junk) x36 (fun x38 s39 => bindO (vBin .add (y2.tail.headD .junk) (.lit (.int .i64 1))) fun x40 => K1 [x38, x40] s39)))) [(.lit (.int .i64 0))] s12))) (Q (y2.headD .junk) s3)) [(.lit (.slice none 0 0)), (.lit (.int .i64 0))] s
theorem c88_eq (a0 a1 a2 : HV) (s : HS) (Q : HV → HS → Prop) : (match Tryz.f88.body with | some c => hwp Tryz.prog (fun p => if p = 58 then some [7, 8] else if p = 14922 then some [10] else if p = 59689 then some [] else none) false 1 c (hretQ Tryz.prog Tryz.f88.results.toList Q) (([a0, a1, a2] : List HV) ++ List.replicate (Tryz.f88.ntmps - 3) (.lit undef)) s | none => False) = c88 a0 a1 a2 s Q := by kernel_rfl
theorem HC88 {a0 a1 a2 : HV} {s : HS} {Q : HV → HS → Prop} (h : c88 a0 a1 a2 s Q) : HC Tryz.prog 88 [a0, a1, a2] s Q := HC_by Tryz.func88 (by have := c88_eq a0 a1 a2 s Q; exact this.mpr h)
/-- cordwain/cordwainref16.RoundRobin -/
def c74 (a0 a1 : HV) (s : HS) (Q : HV → HS → Prop) : Prop :=
  HC Tryz.prog 84 [a0, a1] s (fun r1 s2 => bindO (vUn .not r1) fun x3 => hcond x3 (Q (.tup [(.lit (.slice none 0 0)), (.lit (.int .i64 1))]) s2) (HC Tryz.prog 85 [a0] s2 (fun r4 s5 => HC Tryz.prog 86 [a1] s5 (fun r6 s7 => bindO (vLenT (Tryz.prog.underlying 46) s7 r6) fun x8 => hMake s7 1 8 (.int .i64 0) x8 x8 (fun x9 s10 => HLoop (fun y12 s13 K11 => bindO (vLenT (Tryz.prog.underlying 46) s13 r6) fun x14 => bindO (vBin .lss (y12.tail.headD .junk) x14) fun x15 => hcond x15 (Join (fun K16 => bindO (vIdx 1 x9 (y12.tail.headD .junk)) fun x19 => hStore s13 x19 (.lit (.int .i64 (-1))) 1 (fun s20 => HLoop (fun y22 s23 K21 => bindO (vLenT (Tryz.prog.underlying 111) s23 r4) fun x24 => bindO (vBin .leq (y22.tail.headD .junk) x24) fun x25 => hcond x25 (bindO (vBin .add (y22.headD .junk) (y22.tail.headD .junk)) fun x26 => bindO (vLenT (Tryz.prog.underlying 111) s23 r4) fun x27 => bindO (vBin .add x26 x27) fun x28 => bindO (vLenT (Tryz.prog.underlying 111) s23 r4) fun x29 => bindO (vBin .rem x28 x29) fun x30 => bindO (vIdx 2 r4 x30) fun x31 => bindO (vField 1 x31) fun x32 => bindO (vLoad s23 x32 1 false) fun x33 => bindO (vIdx 2 r6 (y12.tail.headD .junk)) fun x34 => bindO (vField 0 x34) fun x35 => bindO (vLoad s23 x35 1 false) fun x36 => HC Tryz.prog 87 [x33, x36] s23 (fun r37 s38 => hcond r37 (bindO (vIdx 1 x9 (y12.tail.headD .junk)) fun x39 => hStore s38 x39 x30 1 (fun s40 => K16 [x30] s40)) (bindO (vBin .add (y22.tail.headD .junk) (.lit (.int .i64 1))) fun x41 => K21 [(y22.headD .junk), x41] s38))) (K16 [(y22.headD .junk)] s23)) [(y12.headD .junk), (.lit (.int .i64 1))] s20)) (fun y17 s18 => bindO (vBin .add (y12.tail.headD .junk) (.lit (.int .i64 1))) fun x42 => K11 [(y17.headD .junk), x42] s18)) (HC Tryz.prog 88 [r4, r6, x9] s13 (fun r43 s44 => Q (.tup [r43, (.lit (.int .i64 0))]) s44))) [(.lit (.int .i64 (-1))), (.lit (.int .i64 0))] s10)))))
theorem c74_eq (a0 a1 : HV) (s : HS) (Q : HV → HS → Prop) : (match Tryz.f74.body with | some c => hwp Tryz.prog (fun p => if p = 1018 then some [8, 9] else if p = 4073 then some [8] else if p = 130342 then some [8, 10] else none) false 1 c (hretQ Tryz.prog Tryz.f74.results.toList Q) (([a0, a1] : List HV) ++ List.replicate (Tryz.f74.ntmps - 2) (.lit undef)) s | none => False) = c74 a0 a1 s Q := by kernel_rfl
theorem HC74 {a0 a1 : HV} {s : HS} {Q : HV → HS → Prop} (h : c74 a0 a1 s Q) : HC Tryz.prog 74 [a0, a1] s Q := HC_by Tryz.func74 (by have := c74_eq a0 a1 s Q; exact this.mpr h)
/-- cordwain/cordwainref16.Range -/
def c75 (a0 a1 : HV) (s : HS) (Q : HV → HS → Prop) : Prop :=
  HC Tryz.prog 84 [a0, a1] s (fun r1 s2 => bindO (vUn .not r1) fun x3 => hcond x3 (Q (.tup [(.lit (.slice none 0 0)), (.lit (.int .i64 1))]) s2) (HC Tryz.prog 85 [a0] s2 (fun r4 s5 => HC Tryz.prog 86 [a1] s5 (fun r6 s7 => bindO (vLenT (Tryz.prog.underlying 46) s7 r6) fun x8 => hMake s7 1 8 (.int .i64 0) x8 x8 (fun x9 s10 => HLoop (fun y12 s13 K11 => bindO (vLenT (Tryz.prog.underlying 46) s13 r6) fun x14 => bindO (vBin .lss (y12.headD .junk) x14) fun x15 => hcond x15 (bindO (vIdx 1 x9 (y12.headD .junk)) fun x16 => hStore s13 x16 (.lit (.int .i64 (-1))) 1 (fun s17 => bindO (vBin .add (y12.headD .junk) (.lit (.int .i64 1))) fun x18 => K11 [x18] s17)) (HC Tryz.prog 89 [a1] s13 (fun r19 s20 => HLoop (fun y22 s23 K21 => bindO (vLenT (Tryz.prog.underlying 41) s23 r19) fun x24 => bindO (vBin .lss (y22.tail.headD .junk) x24) fun x25 => hcond x25 (HLoop (fun y27 s28 K26 => bindO (vLenT (Tryz.prog.underlying 111) s28 r4) fun x29 => bindO (vBin .lss (y27.tail.headD .junk) x29) fun x30 => hcond x30 (Join (fun K31 => bindO (vIdx 2 r4 (y27.tail.headD .junk)) fun x34 => bindO (vField 1 x34) fun x35 => bindO (vLoad s28 x35 1 false) fun x36 => bindO (vIdx 2 r19 (y22.tail.headD .junk)) fun x37 => bindO (vField 0 x37) fun x38 => bindO (vLoad s28 x38 1 false) fun x39 => HC Tryz.prog 87 [x36, x39] s28 (fun r40 s41 => hcond r40 (hBS s41 1 1 [.lit (.int .i64 0)] [(0, (y27.tail.headD .junk))] (fun x42 s43 => hAppend s43 1 8 (y27.headD .junk) x42 (fun x44 s45 => K31 [x44] s45))) (K31 [(y27.headD .junk)] s41))) (fun y32 s33 => bindO (vBin .add (y27.tail.headD .junk) (.lit (.int .i64 1))) fun x46 => K26 [(y32.headD .junk), x46] s33)) (HLoop (fun y48 s49 K47 => bindO (vLenT (Tryz.prog.underlying 75) s49 (y27.headD .junk)) fun x50 => bindO (vBin .lss (y48.tail.headD .junk) x50) fun x51 => hcond x51 (bindO (vIdx 2 r19 (y22.tail.headD .junk)) fun x52 => bindO (vField 1 x52) fun x53 => bindO (vLoad s49 x53 1 false) fun x54 => bindO (vLenT (Tryz.prog.underlying 75) s49 (y27.headD .junk)) fun x55 => bindO (vBin .quo x54 x55) fun x56 => Join (fun K57 => bindO (vIdx 2 r19 (y22.tail.headD .junk)) fun x60 => bindO (vField 1 x60) fun x61 => bindO (vLoad s49 x61 1 false) fun x62 => bindO (vLenT (Tryz.prog.underlying 75) s49 (y27.headD .junk)) fun x63 => bindO (vBin .rem x62 x63) fun x64 => bindO (vBin .lss (y48.tail.headD .junk) x64) fun x65 => hcond x65 (bindO (vBin .add x56 (.lit (.int .i64 1))) fun x66 => K57 [x66] s49) (K57 [x56] s49)) (fun y58 s59 => HLoop (fun y68 s69 K67 => bindO (vBin .lss (y68.tail.headD .junk) (y58.headD .junk)) fun x70 => hcond x70 (bindO (vBin .add (y22.headD .junk) (y68.headD .junk)) fun x71 => bindO (vIdx 1 (y27.headD .junk) (y48.tail.headD .junk)) fun x72 => bindO (vLoad s69 x72 1 false) fun x73 => bindO (vIdx 1 x9 x71) fun x74 => hStore s69 x74 x73 1 (fun s75 => bindO (vBin .add (y68.headD .junk) (.lit (.int .i64 1))) fun x76 => bindO (vBin .add (y68.tail.headD .junk) (.lit (.int .i64 1))) fun x77 => K67 [x76, x77] s75)) (bindO (vBin .add (y48.tail.headD .junk) (.lit (.int .i64 1))) fun x78 => K47 [(y68.headD .junk), x78] s69)) [(y48.headD .junk), (.lit (.int .i64 0))] s59)) (bindO (vIdx 2 r19 (y22.tail.headD .junk)) fun x79 => bindO (vField 1 x79) fun x80 => bindO (vLoad s49 x80 1 false) fun x81 => bindO (vBin .add (y22.headD .junk) x81) fun x82 => bindO (vBin .add (y22.tail.headD .junk) (.lit (.int .i64 1))) fun x83 => K21 [x82, x83] s49)) [(.lit (.int .i64 0)), (.lit (.int .i64 0))] s28)) [(.lit (.slice none 0 0)), (.lit (.int .i64 0))] s23) (HC Tryz.prog 88 [r4, r6, x9] s23 (fun r84 s85 => Q (.tup [r84, (.lit (.int .i64 0))]) s85))) [(.lit (.int .i64 0)), (.lit (.int .i64 0))] s20))) [(.lit (.int .i64 0))] s10)))))
theorem c75_eq (a0 a1 : HV) (s : HS) (Q : HV → HS → Prop) : (match Tryz.f75.body with | some c => hwp Tryz.prog (fun p => if p = 506 then some [8] else if p = 4090 then some [10, 11] else if p = 1047114 then some [12, 13] else if p = 4188457 then some [12] else if p = 4188474 then some [14, 15] else if p = 134031177 then some [16] else if p = 1072249422 then some [14, 17] else none) false 1 c (hretQ Tryz.prog Tryz.f75.results.toList Q) (([a0, a1] : List HV) ++ List.replicate (Tryz.f75.ntmps - 2) (.lit undef)) s | none => False) = c75 a0 a1 s Q := by kernel_rfl
theorem HC75 {a0 a1 : HV} {s : HS} {Q : HV → HS → Prop} (h : c75 a0 a1 s Q) : HC Tryz.prog 75 [a0, a1] s Q := HC_by Tryz.func75 (by have := c75_eq a0 a1 s Q; exact this.mpr h)
/-- (*cordwain/cordwainref16.Group).form -/
def c53 (a0 : HV) (s : HS) (Q : HV → HS → Prop) : Prop :=
  HC Tryz.prog 72 [a0, (.lit (.int .i64 1))] s (fun r1 s2 => bindO (vNil a0) fun x3 => bindO (vField 8 x3) fun x4 => bindO (vLoad s2 x4 1 false) fun x5 => bindO (vLenT (Tryz.prog.underlying 55) s2 x5) fun x6 => bindO (vCmp (Tryz.prog.underlying 3) .eql x6 (.lit (.int .i64 0))) fun x7 => hcond x7 (HC Tryz.prog 57 [a0] s2 (fun r8 s9 => Q (.tup []) s9)) (bindO (vNil a0) fun x10 => bindO (vField 4 x10) fun x11 => bindO (vLoad s2 x11 1 false) fun x12 => bindO (vBin .add x12 (.lit (.int .i64 1))) fun x13 => bindO (vNil a0) fun x14 => bindO (vField 4 x14) fun x15 => hStore s2 x15 x13 1 (fun s16 => bindO (vNil a0) fun x17 => bindO (vField 3 x17) fun x18 => hStore s16 x18 (.lit (.int .i64 3)) 1 (fun s19 => bindO (vNil a0) fun x20 => bindO (vField 6 x20) fun x21 => bindO (vLoad s19 x21 1 false) fun x22 => bindO (vNil a0) fun x23 => bindO (vField 7 x23) fun x24 => hStore s19 x24 x22 1 (fun s25 => HC Tryz.prog 48 [a0] s25 (fun r26 s27 => HLoop (fun y29 s30 K28 => bindO (vNil a0) fun x31 => bindO (vField 8 x31) fun x32 => bindO (vLoad s30 x32 1 false) fun x33 => bindO (vLenT (Tryz.prog.underlying 55) s30 x33) fun x34 => bindO (vBin .lss (y29.tail.headD .junk) x34) fun x35 => hcond x35 (bindO (vNil a0) fun x36 => bindO (vField 8 x36) fun x37 => bindO (vLoad s30 x37 1 false) fun x38 => bindO (vIdx 5 x38 (y29.tail.headD .junk)) fun x39 => bindO (vField 4 x39) fun x40 => hStore s30 x40 (.lit (.bool false)) 1 (fun s41 => bindO (vNil a0) fun x42 => bindO (vField 8 x42) fun x43 => bindO (vLoad s41 x43 1 false) fun x44 => bindO (vIdx 5 x44 (y29.tail.headD .junk)) fun x45 => bindO (vField 0 x45) fun x46 => bindO (vLoad s41 x46 1 false) fun x47 => bindO (vNil a0) fun x48 => bindO (vField 8 x48) fun x49 => bindO (vLoad s41 x49 1 false) fun x50 => bindO (vIdx 5 x50 (y29.tail.headD .junk)) fun x51 => bindO (vField 1 x51) fun x52 => bindO (vLoad s41 x52 1 false) fun x53 => bindO (vMk [(0, 1), (1, 1)] [.lit (.string .empty), .lit (.slice none 0 0)] [(0, x47), (1, x53)]) fun x54 => hBS s41 2 1 [.lit (.string .empty), .lit (.slice none 0 0)] [(0, x54)] (fun x55 s56 => hAppend s56 2 40 (y29.headD .junk) x55 (fun x57 s58 => bindO (vBin .add (y29.tail.headD .junk) (.lit (.int .i64 1))) fun x59 => K28 [x57, x59] s58)))) (bindO (vNil a0) fun x60 => bindO (vField 2 x60) fun x61 => bindO (vLoad s30 x61 1 false) fun x62 => hcond x62 (bindO (vNil a0) fun x63 => bindO (vField 9 x63) fun x64 => bindO (vLoad s30 x64 1 false) fun x65 => HC Tryz.prog 74 [(y29.headD .junk), x65] s30 (fun r66 s67 => bindO (vExtract r66 0) fun x68 => bindO (vExtract r66 1) fun x69 => bindO (vNil a0) fun x70 => bindO (vField 10 x70) fun x71 => hStore s67 x71 x68 1 (fun s72 => Q (.tup []) s72))) (bindO (vNil a0) fun x73 => bindO (vField 9 x73) fun x74 => bindO (vLoad s30 x74 1 false) fun x75 => HC Tryz.prog 75 [(y29.headD .junk), x75] s30 (fun r76 s77 => bindO (vExtract r76 0) fun x78 => bindO (vExtract r76 1) fun x79 => bindO (vNil a0) fun x80 => bindO (vField 10 x80) fun x81 => hStore s77 x81 x78 1 (fun s82 => Q (.tup []) s82))))) [(.lit (.slice none 0 0)), (.lit (.int .i64 0))] s27))))))
theorem c53_eq (a0 : HV) (s : HS) (Q : HV → HS → Prop) : (match Tryz.f53.body with | some c => hwp Tryz.prog (fun p => if p = 2042 then some [2, 3] else none) false 1 c (hretQ Tryz.prog Tryz.f53.results.toList Q) (([a0] : List HV) ++ List.replicate (Tryz.f53.ntmps - 1) (.lit undef)) s | none => False) = c53 a0 s Q := by kernel_rfl
theorem HC53 {a0 : HV} {s : HS} {Q : HV → HS → Prop} (h : c53 a0 s Q) : HC Tryz.prog 53 [a0] s Q := HC_by Tryz.func53 (by have := c53_eq a0 s Q; exact this.mpr h)
/-- (*cordwain/cordwainref16.Group).prepare -/
def c51 (a0 : HV) (s : HS) (Q : HV → HS → Prop) : Prop :=
  bindO (vNil a0) fun x1 => bindO (vField 3 x1) fun x2 => hStore s x2 (.lit (.int .i64 2)) 1 (fun s3 => bindO (vNil a0) fun x4 => bindO (vField 6 x4) fun x5 => bindO (vLoad s3 x5 1 false) fun x6 => bindO (vNil a0) fun x7 => bindO (vField 7 x7) fun x8 => hStore s3 x8 x6 1 (fun s9 => bindO (vNil a0) fun x10 => bindO (vField 10 x10) fun x11 => hStore s9 x11 (.lit (.slice none 0 0)) 1 (fun s12 => HC Tryz.prog 48 [a0] s12 (fun r13 s14 => HLoop (fun y16 s17 K15 => bindO (vNil a0) fun x18 => bindO (vField 8 x18) fun x19 => bindO (vLoad s17 x19 1 false) fun x20 => bindO (vLenT (Tryz.prog.underlying 55) s17 x20) fun x21 => bindO (vBin .lss (y16.headD .junk) x21) fun x22 => hcond x22 (bindO (vNil a0) fun x23 => bindO (vField 8 x23) fun x24 => bindO (vLoad s17 x24 1 false) fun x25 => bindO (vIdx 5 x25 (y16.headD .junk)) fun x26 => bindO (vField 3 x26) fun x27 => hStore s17 x27 (.lit (.bool false)) 1 (fun s28 => bindO (vBin .add (y16.headD .junk) (.lit (.int .i64 1))) fun x29 => K15 [x29] s28)) (Q (.tup []) s17)) [(.lit (.int .i64 0))] s14))))
theorem c51_eq (a0 : HV) (s : HS) (Q : HV → HS → Prop) : (match Tryz.f51.body with | some c => hwp Tryz.prog (fun p => if p = 126 then some [2] else none) false 1 c (hretQ Tryz.prog Tryz.f51.results.toList Q) (([a0] : List HV) ++ List.replicate (Tryz.f51.ntmps - 1) (.lit undef)) s | none => False) = c51 a0 s Q := by kernel_rfl
theorem HC51 {a0 : HV} {s : HS} {Q : HV → HS → Prop} (h : c51 a0 s Q) : HC Tryz.prog 51 [a0] s Q := HC_by Tryz.func51 (by have := c51_eq a0 s Q; exact this.mpr h)
/-- (*cordwain/cordwainref16.Group).again -/
def c73 (a0 : HV) (s : HS) (Q : HV → HS → Prop) : Prop :=
  bindO (vNil a0) fun x1 => bindO (vField 8 x1) fun x2 => bindO (vLoad s x2 1 false) fun x3 => bindO (vLenT (Tryz.prog.underlying 55) s x3) fun x4 => bindO (vCmp (Tryz.prog.underlying 3) .eql x4 (.lit (.int .i64 0))) fun x5 => hcond x5 (HC Tryz.prog 57 [a0] s (fun r6 s7 => Q (.tup []) s7)) (HC Tryz.prog 51 [a0] s (fun r8 s9 => Q (.tup []) s9))
theorem c73_eq (a0 : HV) (s : HS) (Q : HV → HS → Prop) : (match Tryz.f73.body with | some c => hwp Tryz.prog (fun p => none) false 1 c (hretQ Tryz.prog Tryz.f73.results.toList Q) (([a0] : List HV) ++ List.replicate (Tryz.f73.ntmps - 1) (.lit undef)) s | none => False) = c73 a0 s Q := by kernel_rfl
theorem HC73 {a0 : HV} {s : HS} {Q : HV → HS → Prop} (h : c73 a0 s Q) : HC Tryz.prog 73 [a0] s Q := HC_by Tryz.func73 (by have := c73_eq a0 s Q; exact this.mpr h)
/-- (*cordwain/cordwainref16.Group).time -/
def c46 (a0 a1 : HV) (s : HS) (Q : HV → HS → Prop) : Prop :=
  bindO (vNil a0) fun x1 => bindO (vField 6 x1) fun x2 => bindO (vLoad s x2 1 false) fun x3 => bindO (hfold vMax2 x3 [a1]) fun x4 => bindO (vNil a0) fun x5 => bindO (vField 6 x5) fun x6 => hStore s x6 x4 1 (fun s7 => Join (fun K8 => Join (fun K11 => HC Tryz.prog 72 [a0, (.lit (.int .i64 3))] s7 (fun r14 s15 => hcond r14 (bindO (vNil a0) fun x16 => bindO (vField 3 x16) fun x17 => bindO (vLoad s15 x17 1 false) fun x18 => bindO (vCmp (Tryz.prog.underlying 3) .eql x18 (.lit (.int .i64 3))) fun x19 => hcond x19 (K11 [(.lit (.bool true))] s15) (bindO (vNil a0) fun x20 => bindO (vField 3 x20) fun x21 => bindO (vLoad s15 x21 1 false) fun x22 => bindO (vCmp (Tryz.prog.underlying 3) .eql x22 (.lit (.int .i64 4))) fun x23 => K11 [x23] s15)) (K11 [(.lit (.bool false))] s15))) (fun y12 s13 => hcond (y12.headD .junk) (HC Tryz.prog 73 [a0] s13 (fun r24 s25 => K8 [] s25)) (K8 [] s13))) (fun y9 s10 => Join (fun K26 => bindO (vNil a0) fun x29 => bindO (vField 3 x29) fun x30 => bindO (vLoad s10 x30 1 false) fun x31 => bindO (vCmp (Tryz.prog.underlying 3) .eql x31 (.lit (.int .i64 2))) fun x32 => hcond x32 (bindO (vNil a0) fun x33 => bindO (vField 8 x33) fun x34 => bindO (vLoad s10 x34 1 false) fun x35 => bindO (vLenT (Tryz.prog.underlying 55) s10 x35) fun x36 => bindO (vCmp (Tryz.prog.underlying 3) .eql x36 (.lit (.int .i64 0))) fun x37 => hcond x37 (HC Tryz.prog 57 [a0] s10 (fun r38 s39 => K26 [] s39)) (Join (fun K40 => HC Tryz.prog 52 [a0] s10 (fun r43 s44 => hcond r43 (K40 [(.lit (.bool true))] s44) (bindO (vNil a0) fun x45 => bindO (vField 6 x45) fun x46 => bindO (vLoad s44 x46 1 false) fun x47 => bindO (vNil a0) fun x48 => bindO (vField 7 x48) fun x49 => bindO (vLoad s44 x49 1 false) fun x50 => bindO (vBin .sub x47 x50) fun x51 => bindO (vNil a0) fun x52 => bindO (vField 1 x52) fun x53 => bindO (vLoad s44 x53 1 false) fun x54 => bindO (vBin .geq x51 x54) fun x55 => K40 [x55] s44))) (fun y41 s42 => hcond (y41.headD .junk) (HC Tryz.prog 53 [a0] s42 (fun r56 s57 => K26 [] s57)) (K26 [] s42)))) (K26 [] s10)) (fun y27 s28 => Join (fun K58 => bindO (vNil a0) fun x61 => bindO (vField 3 x61) fun x62 => bindO (vLoad s28 x62 1 false) fun x63 => bindO (vCmp (Tryz.prog.underlying 3) .eql x63 (.lit (.int .i64 3))) fun x64 => hcond x64 (bindO (vNil a0) fun x65 => bindO (vField 6 x65) fun x66 => bindO (vLoad s28 x66 1 false) fun x67 => bindO (vNil a0) fun x68 => bindO (vField 7 x68) fun x69 => bindO (vLoad s28 x69 1 false) fun x70 => bindO (vBin .sub x67 x70) fun x71 => bindO (vNil a0) fun x72 => bindO (vField 1 x72) fun x73 => bindO (vLoad s28 x73 1 false) fun x74 => bindO (vBin .geq x71 x74) fun x75 => hcond x75 (HC Tryz.prog 72 [a0, (.lit (.int .i64 2))] s28 (fun r76 s77 => K58 [r76] s77)) (K58 [(.lit (.bool false))] s28)) (K58 [(.lit (.bool false))] s28)) (fun y59 s60 => hcond (y59.headD .junk) (HC Tryz.prog 73 [a0] s60 (fun r78 s79 => Q (.tup []) s79)) (Q (.tup []) s60)))))
theorem c46_eq (a0 a1 : HV) (s : HS) (Q : HV → HS → Prop) : (match Tryz.f46.body with | some c => hwp Tryz.prog (fun p => if p = 3 then some [] else if p = 6 then some [28] else if p = 7 then some [] else if p = 15 then some [90] else if p = 467 then some [45] else none) false 1 c (hretQ Tryz.prog Tryz.f46.results.toList Q) (([a0, a1] : List HV) ++ List.replicate (Tryz.f46.ntmps - 2) (.lit undef)) s | none => False) = c46 a0 a1 s Q := by kernel_rfl
theorem HC46 {a0 a1 : HV} {s : HS} {Q : HV → HS → Prop} (h : c46 a0 a1 s Q) : HC Tryz.prog 46 [a0, a1] s Q := HC_by Tryz.func46 (by have := c46_eq a0 a1 s Q; exact this.mpr h)
/-- (*cordwain/cordwainref16.Group).at -/
def c47 (a0 a1 : HV) (s : HS) (Q : HV → HS → Prop) : Prop :=
  HLoop (fun y2 s3 K1 => bindO (vNil a0) fun x4 => bindO (vField 8 x4) fun x5 => bindO (vLoad s3 x5 1 false) fun x6 => bindO (vLenT (Tryz.prog.underlying 55) s3 x6) fun x7 => bindO (vBin .lss (y2.headD .junk) x7) fun x8 => hcond x8 (bindO (vNil a0) fun x9 => bindO (vField 8 x9) fun x10 => bindO (vLoad s3 x10 1 false) fun x11 => bindO (vIdx 5 x11 (y2.headD .junk)) fun x12 => bindO (vField 0 x12) fun x13 => bindO (vLoad s3 x13 1 false) fun x14 => bindO (vCmp (Tryz.prog.underlying 9) .eql x14 a1) fun x15 => hcond x15 (Q (y2.headD .junk) s3) (bindO (vBin .add (y2.headD .junk) (.lit (.int .i64 1))) fun x16 => K1 [x16] s3)) (Q (.lit (.int .i64 (-1))) s3)) [(.lit (.int .i64 0))] s
theorem c47_eq (a0 a1 : HV) (s : HS) (Q : HV → HS → Prop) : (match Tryz.f47.body with | some c => hwp Tryz.prog (fun p => if p = 26 then some [5] else none) false 1 c (hretQ Tryz.prog Tryz.f47.results.toList Q) (([a0, a1] : List HV) ++ List.replicate (Tryz.f47.ntmps - 2) (.lit undef)) s | none => False) = c47 a0 a1 s Q := by kernel_rfl
theorem HC47 {a0 a1 : HV} {s : HS} {Q : HV → HS → Prop} (h : c47 a0 a1 s Q) : HC Tryz.prog 47 [a0, a1] s Q := HC_by Tryz.func47 (by have := c47_eq a0 a1 s Q; exact this.mpr h)
/-- cordwain/cordwainref16.same -/
def c50 (a0 a1 : HV) (s : HS) (Q : HV → HS → Prop) : Prop :=
  bindO (vLenT (Tryz.prog.underlying 33) s a0) fun x1 => bindO (vLenT (Tryz.prog.underlying 33) s a1) fun x2 => bindO (vCmp (Tryz.prog.underlying 3) .neq x1 x2) fun x3 => hcond x3 (Q (.lit (.bool false)) s) (HLoop (fun y5 s6 K4 => bindO (vLenT (Tryz.prog.underlying 33) s6 a0) fun x7 => bindO (vBin .lss (y5.headD .junk) x7) fun x8 => hcond x8 (bindO (vIdx 1 a0 (y5.headD .junk)) fun x9 => bindO (vLoad s6 x9 1 false) fun x10 => bindO (vIdx 1 a1 (y5.headD .junk)) fun x11 => bindO (vLoad s6 x11 1 false) fun x12 => bindO (vCmp (Tryz.prog.underlying 9) .neq x10 x12) fun x13 => hcond x13 (Q (.lit (.bool false)) s6) (bindO (vBin .add (y5.headD .junk) (.lit (.int .i64 1))) fun x14 => K4 [x14] s6)) (Q (.lit (.bool true)) s6)) [(.lit (.int .i64 0))] s)
theorem c50_eq (a0 a1 : HV) (s : HS) (Q : HV → HS → Prop) : (match Tryz.f50.body with | some c => hwp Tryz.prog (fun p => if p = 58 then some [5] else none) false 1 c (hretQ Tryz.prog Tryz.f50.results.toList Q) (([a0, a1] : List HV) ++ List.replicate (Tryz.f50.ntmps - 2) (.lit undef)) s | none => False) = c50 a0 a1 s Q := by kernel_rfl
theorem HC50 {a0 a1 : HV} {s : HS} {Q : HV → HS → Prop} (h : c50 a0 a1 s Q) : HC Tryz.prog 50 [a0, a1] s Q := HC_by Tryz.func50 (by have := c50_eq a0 a1 s Q; exact this.mpr h)
/-- (*cordwain/cordwainref16.Group).Join -/
def c17 (a0 a1 a2 a3 a4 : HV) (s : HS) (Q : HV → HS → Prop) : Prop :=
  bindO (vNil a0) fun x1 => bindO (vField 9 x1) fun x2 => hStore s x2 a3 1 (fun s3 => HC Tryz.prog 46 [a0, a4] s3 (fun r4 s5 => bindO (vLenT (Tryz.prog.underlying 33) s5 a2) fun x6 => bindO (vBin .gtr x6 (.lit (.int .i64 30))) fun x7 => hcond x7 (Q (.tup [(.lit (.string { data := #[] })), (.lit (.int .i64 0)), (.lit (.int .i64 1))]) s5) (HC Tryz.prog 47 [a0, a1] s5 (fun r8 s9 => bindO (vCmp (Tryz.prog.underlying 9) .eql a1 (.lit (.string { data := #[] }))) fun x10 => Join (fun K11 => hcond x10 (bindO (vNil a0) fun x14 => bindO (vField 8 x14) fun x15 => bindO (vLoad s9 x15 1 false) fun x16 => bindO (vLenT (Tryz.prog.underlying 55) s9 x16) fun x17 => bindO (vBin .geq x17 (.lit (.int .i64 20))) fun x18 => K11 [x18] s9) (K11 [(.lit (.bool false))] s9)) (fun y12 s13 => hcond (y12.headD .junk) (Q (.tup [(.lit (.string { data := #[] })), (.lit (.int .i64 0)), (.lit (.int .i64 4))]) s13) (Join (fun K19 => bindO (vUn .not x10) fun x22 => hcond x22 (bindO (vBin .lss r8 (.lit (.int .i64 0))) fun x23 => K19 [x23] s13) (K19 [(.lit (.bool false))] s13)) (fun y20 s21 => hcond (y20.headD .junk) (Q (.tup [(.lit (.string { data := #[] })), (.lit (.int .i64 0)), (.lit (.int .i64 13))]) s21) (HC Tryz.prog 48 [a0] s21 (fun r24 s25 => Join (fun K26 => hcond x10 (bindO (vNil a0) fun x29 => bindO (vField 5 x29) fun x30 => bindO (vLoad s25 x30 1 false) fun x31 => bindO (vBin .add x31 (.lit (.int .i64 1))) fun x32 => bindO (vNil a0) fun x33 => bindO (vField 5 x33) fun x34 => hStore s25 x34 x32 1 (fun s35 => bindO (vNil a0) fun x36 => bindO (vField 8 x36) fun x37 => bindO (vLoad s35 x37 1 false) fun x38 => bindO (vNil a0) fun x39 => bindO (vField 5 x39) fun x40 => bindO (vLoad s35 x40 1 false) fun x41 => HC Tryz.prog 49 [x41] s35 (fun r42 s43 => (vLoad s43 x37 1 false = vLoad s35 x37 1 false ∧ bindO (vBin .add (.lit (.string { data := #[109] })) r42) fun x44 => bindO (vMk [(0, 1), (1, 1), (2, 1), (3, 1), (4, 1)] [.lit (.string .empty), .lit (.slice none 0 0), .lit (.int .i64 0), .lit (.bool false), .lit (.bool false)] [(0, x44)]) fun x45 => hBS s43 5 1 [.lit (.string .empty), .lit (.slice none 0 0), .lit (.int .i64 0), .lit (.bool false), .lit (.bool false)] [(0, x45)] (fun x46 s47 => (vLoad s47 x37 1 false = vLoad s43 x37 1 false ∧ hAppend s47 5 56 x38 x46 (fun x48 s49 => bindO (vNil a0) fun x50 => bindO (vField 8 x50) fun x51 => hStore s49 x51 x48 1 (fun s52 => bindO (vNil a0) fun x53 => bindO (vField 8 x53) fun x54 => bindO (vLoad s52 x54 1 false) fun x55 => bindO (vLenT (Tryz.prog.underlying 55) s52 x55) fun x56 => bindO (vBin .sub x56 (.lit (.int .i64 1))) fun x57 => K26 [x57] s52)))))))) (K26 [r8] s25)) (fun y27 s28 => bindO (vNil a0) fun x58 => bindO (vField 8 x58) fun x59 => bindO (vLoad s28 x59 1 false) fun x60 => bindO (vNil a0) fun x61 => bindO (vField 6 x61) fun x62 => bindO (vLoad s28 x62 1 false) fun x63 => bindO (vIdx 5 x60 (y27.headD .junk)) fun x64 => bindO (vField 2 x64) fun x65 => hStore s28 x65 x63 1 (fun s66 => Join (fun K67 => Join (fun K70 => hcond x10 (K70 [(.lit (.bool true))] s66) (bindO (vNil a0) fun x73 => bindO (vField 3 x73) fun x74 => bindO (vLoad s66 x74 1 false) fun x75 => bindO (vCmp (Tryz.prog.underlying 3) .eql x75 (.lit (.int .i64 2))) fun x76 => hcond x76 (K70 [(.lit (.bool true))] s66) (bindO (vNil a0) fun x77 => bindO (vField 8 x77) fun x78 => bindO (vLoad s66 x78 1 false) fun x79 => bindO (vIdx 5 x79 (y27.headD .junk)) fun x80 => bindO (vField 1 x80) fun x81 => bindO (vLoad s66 x81 1 false) fun x82 => HC Tryz.prog 50 [a2, x82] s66 (fun r83 s84 => bindO (vUn .not r83) fun x85 => K70 [x85] s84)))) (fun y71 s72 => hcond (y71.headD .junk) (bindO (vNil a0) fun x86 => bindO (vField 8 x86) fun x87 => bindO (vLoad s72 x87 1 false) fun x88 => bindO (vIdx 5 x88 (y27.headD .junk)) fun x89 => bindO (vField 1 x89) fun x90 => hStore s72 x90 a2 1 (fun s91 => Join (fun K92 => bindO (vNil a0) fun x95 => bindO (vField 3 x95) fun x96 => bindO (vLoad s91 x96 1 false) fun x97 => bindO (vCmp (Tryz.prog.underlying 3) .neq x97 (.lit (.int .i64 2))) fun x98 => hcond x98 (HC Tryz.prog 51 [a0] s91 (fun r99 s100 => K92 [] s100)) (K92 [] s91)) (fun y93 s94 => bindO (vNil a0) fun x101 => bindO (vField 8 x101) fun x102 => bindO (vLoad s94 x102 1 false) fun x103 => bindO (vIdx 5 x103 (y27.headD .junk)) fun x104 => bindO (vField 3 x104) fun x105 => hStore s94 x105 (.lit (.bool true)) 1 (fun s106 => HC Tryz.prog 52 [a0] s106 (fun r107 s108 => hcond r107 (HC Tryz.prog 53 [a0] s108 (fun r109 s110 => K67 [] s110)) (K67 [] s108)))))) (K67 [] s72))) (fun y68 s69 => bindO (vNil a0) fun x111 => bindO (vField 8 x111) fun x112 => bindO (vLoad s69 x112 1 false) fun x113 => bindO (vIdx 5 x113 (y27.headD .junk)) fun x114 => bindO (vField 0 x114) fun x115 => bindO (vLoad s69 x115 1 false) fun x116 => bindO (vNil a0) fun x117 => bindO (vField 3 x117) fun x118 => bindO (vLoad s69 x118 1 false) fun x119 => bindO (vCmp (Tryz.prog.underlying 3) .eql x119 (.lit (.int .i64 2))) fun x120 => hcond x120 (Q (.tup [x116, (.lit (.int .i64 0)), (.lit (.int .i64 14))]) s69) (bindO (vNil a0) fun x121 => bindO (vField 4 x121) fun x122 => bindO (vLoad s69 x122 1 false) fun x123 => (vLoad s69 x122 1 false = vLoad s69 x122 1 false ∧ Q (.tup [x116, x123, (.lit (.int .i64 0))]) s69))))))))))))))
theorem c17_eq (a0 a1 a2 a3 a4 : HV) (s : HS) (Q : HV → HS → Prop) : (match Tryz.f17.body with | some c => hwp Tryz.prog (fun p => if p = 508 then some [31] else if p = 511 then some [13] else if p = 2035 then some [41] else if p = 2047 then some [] else if p = 4094 then some [111] else if p = 32757 then some [] else none) false 1 c (hretQ Tryz.prog Tryz.f17.results.toList Q) (([a0, a1, a2, a3, a4] : List HV) ++ List.replicate (Tryz.f17.ntmps - 5) (.lit undef)) s | none => False) = c17 a0 a1 a2 a3 a4 s Q := by kernel_rfl
theorem HC17 {a0 a1 a2 a3 a4 : HV} {s : HS} {Q : HV → HS → Prop} (h : c17 a0 a1 a2 a3 a4 s Q) : HC Tryz.prog 17 [a0, a1, a2, a3, a4] s Q := HC_by Tryz.func17 (by have := c17_eq a0 a1 a2 a3 a4 s Q; exact this.mpr h)
/-- cordwain/cordwainref16.Of -/
def c54 (a0 a1 : HV) (s : HS) (Q : HV → HS → Prop) : Prop :=
  HLoop (fun y2 s3 K1 => bindO (vLenT (Tryz.prog.underlying 52) s3 a0) fun x4 => bindO (vBin .lss (y2.headD .junk) x4) fun x5 => hcond x5 (bindO (vIdx 2 a0 (y2.headD .junk)) fun x6 => bindO (vField 0 x6) fun x7 => bindO (vLoad s3 x7 1 false) fun x8 => bindO (vCmp (Tryz.prog.underlying 9) .eql x8 a1) fun x9 => hcond x9 (bindO (vIdx 2 a0 (y2.headD .junk)) fun x10 => bindO (vField 1 x10) fun x11 => bindO (vLoad s3 x11 1 false) fun x12 => Q x12 s3) (bindO (vBin .add (y2.headD .junk) (.lit (.int .i64 1))) fun x13 => K1 [x13] s3)) (Q (.lit (.slice none 0 0)) s3)) [(.lit (.int .i64 0))] s
theorem c54_eq (a0 a1 : HV) (s : HS) (Q : HV → HS → Prop) : (match Tryz.f54.body with | some c => hwp Tryz.prog (fun p => if p = 26 then some [5] else none) false 1 c (hretQ Tryz.prog Tryz.f54.results.toList Q) (([a0, a1] : List HV) ++ List.replicate (Tryz.f54.ntmps - 2) (.lit undef)) s | none => False) = c54 a0 a1 s Q := by kernel_rfl
theorem HC54 {a0 a1 : HV} {s : HS} {Q : HV → HS → Prop} (h : c54 a0 a1 s Q) : HC Tryz.prog 54 [a0, a1] s Q := HC_by Tryz.func54 (by have := c54_eq a0 a1 s Q; exact this.mpr h)
/-- (*cordwain/cordwainref16.Group).Sync -/
def c18 (a0 a1 a2 a3 : HV) (s : HS) (Q : HV → HS → Prop) : Prop :=
  HC Tryz.prog 46 [a0, a3] s (fun r1 s2 => HC Tryz.prog 47 [a0, a1] s2 (fun r3 s4 => bindO (vBin .lss r3 (.lit (.int .i64 0))) fun x5 => hcond x5 (Q (.tup [(.lit (.slice none 0 0)), (.lit (.int .i64 13))]) s4) (bindO (vNil a0) fun x6 => bindO (vField 4 x6) fun x7 => bindO (vLoad s4 x7 1 false) fun x8 => bindO (vCmp (Tryz.prog.underlying 3) .neq a2 x8) fun x9 => hcond x9 (Q (.tup [(.lit (.slice none 0 0)), (.lit (.int .i64 12))]) s4) (HC Tryz.prog 48 [a0] s4 (fun r10 s11 => bindO (vNil a0) fun x12 => bindO (vField 8 x12) fun x13 => bindO (vLoad s11 x13 1 false) fun x14 => bindO (vNil a0) fun x15 => bindO (vField 6 x15) fun x16 => bindO (vLoad s11 x16 1 false) fun x17 => bindO (vIdx 5 x14 r3) fun x18 => bindO (vField 2 x18) fun x19 => hStore s11 x19 x17 1 (fun s20 => bindO (vNil a0) fun x21 => bindO (vField 3 x21) fun x22 => bindO (vLoad s20 x22 1 false) fun x23 => bindO (vCmp (Tryz.prog.underlying 3) .eql x23 (.lit (.int .i64 2))) fun x24 => hcond x24 (Q (.tup [(.lit (.slice none 0 0)), (.lit (.int .i64 14))]) s20) (bindO (vNil a0) fun x25 => bindO (vField 8 x25) fun x26 => bindO (vLoad s20 x26 1 false) fun x27 => bindO (vIdx 5 x27 r3) fun x28 => bindO (vField 4 x28) fun x29 => hStore s20 x29 (.lit (.bool true)) 1 (fun s30 => HLoop (fun y32 s33 K31 => bindO (vNil a0) fun x34 => bindO (vField 8 x34) fun x35 => bindO (vLoad s33 x35 1 false) fun x36 => bindO (vLenT (Tryz.prog.underlying 55) s33 x36) fun x37 => bindO (vBin .lss (y32.tail.headD .junk) x37) fun x38 => hcond x38 (Join (fun K39 => hcond (y32.headD .junk) (bindO (vNil a0) fun x42 => bindO (vField 8 x42) fun x43 => bindO (vLoad s33 x43 1 false) fun x44 => bindO (vIdx 5 x44 (y32.tail.headD .junk)) fun x45 => bindO (vField 4 x45) fun x46 => bindO (vLoad s33 x46 1 false) fun x47 => K39 [x47] s33) (K39 [(.lit (.bool false))] s33)) (fun y40 s41 => bindO (vBin .add (y32.tail.headD .junk) (.lit (.int .i64 1))) fun x48 => K31 [(y40.headD .junk), x48] s41)) (Join (fun K49 => Join (fun K52 => hcond (y32.headD .junk) (bindO (vNil a0) fun x55 => bindO (vField 3 x55) fun x56 => bindO (vLoad s33 x56 1 false) fun x57 => bindO (vCmp (Tryz.prog.underlying 3) .eql x57 (.lit (.int .i64 3))) fun x58 => K52 [x58] s33) (K52 [(.lit (.bool false))] s33)) (fun y53 s54 => hcond (y53.headD .junk) (bindO (vNil a0) fun x59 => bindO (vField 3 x59) fun x60 => hStore s54 x60 (.lit (.int .i64 4)) 1 (fun s61 => K49 [] s61)) (K49 [] s54))) (fun y50 s51 => bindO (vNil a0) fun x62 => bindO (vField 10 x62) fun x63 => bindO (vLoad s51 x63 1 false) fun x64 => HC Tryz.prog 54 [x64, a1] s51 (fun r65 s66 => Q (.tup [r65, (.lit (.int .i64 0))]) s66)))) [(.lit (.bool true)), (.lit (.int .i64 0))] s30))))))))
theorem c18_eq (a0 a1 a2 a3 : HV) (s : HS) (Q : HV → HS → Prop) : (match Tryz.f18.body with | some c => hwp Tryz.prog (fun p => if p = 2047 then some [] else if p = 4094 then some [81] else if p = 8186 then some [11, 12] else if p = 32745 then some [11] else none) false 1 c (hretQ Tryz.prog Tryz.f18.results.toList Q) (([a0, a1, a2, a3] : List HV) ++ List.replicate (Tryz.f18.ntmps - 4) (.lit undef)) s | none => False) = c18 a0 a1 a2 a3 s Q := by kernel_rfl
theorem HC18 {a0 a1 a2 a3 : HV} {s : HS} {Q : HV → HS → Prop} (h : c18 a0 a1 a2 a3 s Q) : HC Tryz.prog 18 [a0, a1, a2, a3] s Q := HC_by Tryz.func18 (by have := c18_eq a0 a1 a2 a3 s Q; exact this.mpr h)
/-- (*cordwain/cordwainref16.Group).Beat -/
def c20 (a0 a1 a2 a3 : HV) (s : HS) (Q : HV → HS → Prop) : Prop :=
  HC Tryz.prog 46 [a0, a3] s (fun r1 s2 => HC Tryz.prog 47 [a0, a1] s2 (fun r3 s4 => bindO (vBin .lss r3 (.lit (.int .i64 0))) fun x5 => hcond x5 (Q (.lit (.int .i64 13)) s4) (bindO (vNil a0) fun x6 => bindO (vField 4 x6) fun x7 => bindO (vLoad s4 x7 1 false) fun x8 => bindO (vCmp (Tryz.prog.underlying 3) .neq a2 x8) fun x9 => hcond x9 (Q (.lit (.int .i64 12)) s4) (HC Tryz.prog 48 [a0] s4 (fun r10 s11 => bindO (vNil a0) fun x12 => bindO (vField 8 x12) fun x13 => bindO (vLoad s11 x13 1 false) fun x14 => bindO (vNil a0) fun x15 => bindO (vField 6 x15) fun x16 => bindO (vLoad s11 x16 1 false) fun x17 => bindO (vIdx 5 x14 r3) fun x18 => bindO (vField 2 x18) fun x19 => hStore s11 x19 x17 1 (fun s20 => bindO (vNil a0) fun x21 => bindO (vField 3 x21) fun x22 => bindO (vLoad s20 x22 1 false) fun x23 => bindO (vCmp (Tryz.prog.underlying 3) .eql x23 (.lit (.int .i64 2))) fun x24 => hcond x24 (Q (.lit (.int .i64 14)) s20) (Q (.lit (.int .i64 0)) s20)))))))
theorem c20_eq (a0 a1 a2 a3 : HV) (s : HS) (Q : HV → HS → Prop) : (match Tryz.f20.body with | some c => hwp Tryz.prog (fun p => none) false 1 c (hretQ Tryz.prog Tryz.f20.results.toList Q) (([a0, a1, a2, a3] : List HV) ++ List.replicate (Tryz.f20.ntmps - 4) (.lit undef)) s | none => False) = c20 a0 a1 a2 a3 s Q := by kernel_rfl
theorem HC20 {a0 a1 a2 a3 : HV} {s : HS} {Q : HV → HS → Prop} (h : c20 a0 a1 a2 a3 s Q) : HC Tryz.prog 20 [a0, a1, a2, a3] s Q := HC_by Tryz.func20 (by have := c20_eq a0 a1 a2 a3 s Q; exact this.mpr h)
/-- (*cordwain/cordwainref16.Group).Leave -/
def c22 (a0 a1 a2 a3 : HV) (s : HS) (Q : HV → HS → Prop) : Prop :=
  bindO (vNil a0) fun x1 => bindO (vField 9 x1) fun x2 => hStore s x2 a2 1 (fun s3 => HC Tryz.prog 46 [a0, a3] s3 (fun r4 s5 => HC Tryz.prog 47 [a0, a1] s5 (fun r6 s7 => bindO (vBin .lss r6 (.lit (.int .i64 0))) fun x8 => hcond x8 (Q (.lit (.int .i64 13)) s7) (bindO (vNil a0) fun x9 => bindO (vField 8 x9) fun x10 => bindO (vLoad s7 x10 1 false) fun x11 => bindO (vSlice 5 x11 none (some r6) none) fun x12 => bindO (vNil a0) fun x13 => bindO (vField 8 x13) fun x14 => bindO (vLoad s7 x14 1 false) fun x15 => bindO (vBin .add r6 (.lit (.int .i64 1))) fun x16 => bindO (vSlice 5 x15 (some x16) none none) fun x17 => hBS s7 5 0 [] [] (fun x18 s19 => (vLoad s19 x14 1 false = vLoad s7 x14 1 false ∧ (vLoad s19 x10 1 false = vLoad s7 x10 1 false ∧ hAppend s19 5 56 x18 x12 (fun x20 s21 => (vLoad s21 x14 1 false = vLoad s19 x14 1 false ∧ hAppend s21 5 56 x20 x17 (fun x22 s23 => bindO (vNil a0) fun x24 => bindO (vField 8 x24) fun x25 => hStore s23 x25 x22 1 (fun s26 => bindO (vNil a0) fun x27 => bindO (vField 8 x27) fun x28 => bindO (vLoad s26 x28 1 false) fun x29 => bindO (vLenT (Tryz.prog.underlying 55) s26 x29) fun x30 => bindO (vCmp (Tryz.prog.underlying 3) .eql x30 (.lit (.int .i64 0))) fun x31 => hcond x31 (HC Tryz.prog 57 [a0] s26 (fun r32 s33 => Q (.lit (.int .i64 0)) s33)) (Join (fun K34 => bindO (vNil a0) fun x37 => bindO (vField 3 x37) fun x38 => bindO (vLoad s26 x38 1 false) fun x39 => bindO (vCmp (Tryz.prog.underlying 3) .neq x39 (.lit (.int .i64 2))) fun x40 => hcond x40 (HC Tryz.prog 51 [a0] s26 (fun r41 s42 => K34 [] s42)) (K34 [] s26)) (fun y35 s36 => Join (fun K43 => HC Tryz.prog 52 [a0] s36 (fun r46 s47 => hcond r46 (HC Tryz.prog 53 [a0] s47 (fun r48 s49 => K43 [] s49)) (K43 [] s47))) (fun y44 s45 => Q (.lit (.int .i64 0)) s45))))))))))))))
theorem c22_eq (a0 a1 a2 a3 : HV) (s : HS) (Q : HV → HS → Prop) : (match Tryz.f22.body with | some c => hwp Tryz.prog (fun p => if p = 255 then some [] else if p = 511 then some [] else none) false 1 c (hretQ Tryz.prog Tryz.f22.results.toList Q) (([a0, a1, a2, a3] : List HV) ++ List.replicate (Tryz.f22.ntmps - 4) (.lit undef)) s | none => False) = c22 a0 a1 a2 a3 s Q := by kernel_rfl
theorem HC22 {a0 a1 a2 a3 : HV} {s : HS} {Q : HV → HS → Prop} (h : c22 a0 a1 a2 a3 s Q) : HC Tryz.prog 22 [a0, a1, a2, a3] s Q := HC_by Tryz.func22 (by have := c22_eq a0 a1 a2 a3 s Q; exact this.mpr h)
/-- (*cordwain/cordwainref16.Group).Tick -/
def c24 (a0 a1 a2 : HV) (s : HS) (Q : HV → HS → Prop) : Prop :=
  bindO (vNil a0) fun x1 => bindO (vField 9 x1) fun x2 => hStore s x2 a1 1 (fun s3 => HC Tryz.prog 46 [a0, a2] s3 (fun r4 s5 => Q (.tup []) s5))
theorem c24_eq (a0 a1 a2 : HV) (s : HS) (Q : HV → HS → Prop) : (match Tryz.f24.body with | some c => hwp Tryz.prog (fun p => none) false 1 c (hretQ Tryz.prog Tryz.f24.results.toList Q) (([a0, a1, a2] : List HV) ++ List.replicate (Tryz.f24.ntmps - 3) (.lit undef)) s | none => False) = c24 a0 a1 a2 s Q := by kernel_rfl
theorem HC24 {a0 a1 a2 : HV} {s : HS} {Q : HV → HS → Prop} (h : c24 a0 a1 a2 s Q) : HC Tryz.prog 24 [a0, a1, a2] s Q := HC_by Tryz.func24 (by have := c24_eq a0 a1 a2 s Q; exact this.mpr h)
/-- (*cordwain/cordwainref16.Group).Fence -/
def c26 (a0 a1 a2 : HV) (s : HS) (Q : HV → HS → Prop) : Prop :=
  HC Tryz.prog 47 [a0, a1] s (fun r1 s2 => bindO (vBin .lss r1 (.lit (.int .i64 0))) fun x3 => hcond x3 (Q (.lit (.int .i64 13)) s2) (bindO (vNil a0) fun x4 => bindO (vField 4 x4) fun x5 => bindO (vLoad s2 x5 1 false) fun x6 => bindO (vCmp (Tryz.prog.underlying 3) .neq a2 x6) fun x7 => hcond x7 (Q (.lit (.int .i64 12)) s2) (Q (.lit (.int .i64 0)) s2)))
theorem c26_eq (a0 a1 a2 : HV) (s : HS) (Q : HV → HS → Prop) : (match Tryz.f26.body with | some c => hwp Tryz.prog (fun p => none) false 1 c (hretQ Tryz.prog Tryz.f26.results.toList Q) (([a0, a1, a2] : List HV) ++ List.replicate (Tryz.f26.ntmps - 3) (.lit undef)) s | none => False) = c26 a0 a1 a2 s Q := by kernel_rfl
theorem HC26 {a0 a1 a2 : HV} {s : HS} {Q : HV → HS → Prop} (h : c26 a0 a1 a2 s Q) : HC Tryz.prog 26 [a0, a1, a2] s Q := HC_by Tryz.func26 (by have := c26_eq a0 a1 a2 s Q; exact this.mpr h)
/-- cordwain/cordwainlaw17.does -/
def c9 (a0 a1 a2 a3 a4 : HV) (s : HS) (Q : HV → HS → Prop) : Prop :=
  hBox s a2 (fun x1 s2 => HC Tryz.prog 12 [a3] s2 (fun r3 s4 => bindO (vExtract r3 0) fun x5 => bindO (vExtract r3 1) fun x6 => Join (fun K7 => bindO (vField 0 x1) fun x10 => bindO (vLoad s4 x10 1 false) fun x11 => bindO (vCmp (Tryz.prog.underlying 3) .eql x11 (.lit (.int .i64 1))) fun x12 => hcond x12 (bindO (vField 1 x1) fun x13 => bindO (vLoad s4 x13 1 false) fun x14 => bindO (vField 2 x1) fun x15 => bindO (vLoad s4 x15 1 false) fun x16 => HC Tryz.prog 13 [a0, x14, x16, x5, a4] s4 (fun r17 s18 => bindO (vExtract r17 0) fun x19 => bindO (vExtract r17 1) fun x20 => bindO (vExtract r17 2) fun x21 => bindO (vField 1 x1) fun x22 => bindO (vLoad s18 x22 1 false) fun x23 => bindO (vField 2 x1) fun x24 => bindO (vLoad s18 x24 1 false) fun x25 => HC Tryz.prog 17 [a1, x23, x25, x6, a4] s18 (fun r26 s27 => bindO (vExtract r26 0) fun x28 => bindO (vExtract r26 1) fun x29 => bindO (vExtract r26 2) fun x30 => bindO (vCmp (Tryz.prog.underlying 9) .eql x19 x28) fun x31 => hcond x31 (bindO (vCmp (Tryz.prog.underlying 3) .eql x20 x29) fun x32 => hcond x32 (bindO (vCmp (Tryz.prog.underlying 3) .eql x21 x30) fun x33 => Q x33 s27) (Q (.lit (.bool false)) s27)) (Q (.lit (.bool false)) s27)))) (bindO (vCmp (Tryz.prog.underlying 3) .eql x11 (.lit (.int .i64 2))) fun x34 => hcond x34 (bindO (vField 1 x1) fun x35 => bindO (vLoad s4 x35 1 false) fun x36 => bindO (vField 3 x1) fun x37 => bindO (vLoad s4 x37 1 false) fun x38 => HC Tryz.prog 14 [a0, x36, x38, a4] s4 (fun r39 s40 => bindO (vExtract r39 0) fun x41 => bindO (vExtract r39 1) fun x42 => bindO (vField 1 x1) fun x43 => bindO (vLoad s40 x43 1 false) fun x44 => bindO (vField 3 x1) fun x45 => bindO (vLoad s40 x45 1 false) fun x46 => HC Tryz.prog 18 [a1, x44, x46, a4] s40 (fun r47 s48 => bindO (vExtract r47 0) fun x49 => bindO (vExtract r47 1) fun x50 => HC Tryz.prog 19 [x41, x49] s48 (fun r51 s52 => hcond r51 (bindO (vCmp (Tryz.prog.underlying 3) .eql x42 x50) fun x53 => Q x53 s52) (Q (.lit (.bool false)) s52))))) (bindO (vCmp (Tryz.prog.underlying 3) .eql x11 (.lit (.int .i64 3))) fun x54 => hcond x54 (bindO (vField 1 x1) fun x55 => bindO (vLoad s4 x55 1 false) fun x56 => bindO (vField 3 x1) fun x57 => bindO (vLoad s4 x57 1 false) fun x58 => bindO (vField 1 x1) fun x59 => bindO (vLoad s4 x59 1 false) fun x60 => bindO (vField 3 x1) fun x61 => bindO (vLoad s4 x61 1 false) fun x62 => HC Tryz.prog 16 [a0, x56, x58, a4] s4 (fun r63 s64 => (vLoad s64 x61 1 false = vLoad s4 x61 1 false ∧ (vLoad s64 x59 1 false = vLoad s4 x59 1 false ∧ HC Tryz.prog 20 [a1, x60, x62, a4] s64 (fun r65 s66 => bindO (vCmp (Tryz.prog.underlying 3) .eql r63 r65) fun x67 => Q x67 s66))))) (bindO (vCmp (Tryz.prog.underlying 3) .eql x11 (.lit (.int .i64 4))) fun x68 => hcond x68 (bindO (vField 1 x1) fun x69 => bindO (vLoad s4 x69 1 false) fun x70 => bindO (vField 1 x1) fun x71 => bindO (vLoad s4 x71 1 false) fun x72 => HC Tryz.prog 21 [a0, x70, x5, a4] s4 (fun r73 s74 => (vLoad s74 x71 1 false = vLoad s4 x71 1 false ∧ HC Tryz.prog 22 [a1, x72, x6, a4] s74 (fun r75 s76 => bindO (vCmp (Tryz.prog.underlying 3) .eql r73 r75) fun x77 => Q x77 s76)))) (bindO (vCmp (Tryz.prog.underlying 3) .eql x11 (.lit (.int .i64 5))) fun x78 => hcond x78 (HC Tryz.prog 23 [a0, x5, a4] s4 (fun r79 s80 => HC Tryz.prog 24 [a1, x6, a4] s80 (fun r81 s82 => K7 [] s82))) (bindO (vCmp (Tryz.prog.underlying 3) .eql x11 (.lit (.int .i64 6))) fun x83 => hcond x83 (bindO (vField 1 x1) fun x84 => bindO (vLoad s4 x84 1 false) fun x85 => bindO (vField 3 x1) fun x86 => bindO (vLoad s4 x86 1 false) fun x87 => bindO (vField 1 x1) fun x88 => bindO (vLoad s4 x88 1 false) fun x89 => bindO (vField 3 x1) fun x90 => bindO (vLoad s4 x90 1 false) fun x91 => HC Tryz.prog 25 [a0, x85, x87] s4 (fun r92 s93 => (vLoad s93 x90 1 false = vLoad s4 x90 1 false ∧ (vLoad s93 x88 1 false = vLoad s4 x88 1 false ∧ HC Tryz.prog 26 [a1, x89, x91] s93 (fun r94 s95 => bindO (vCmp (Tryz.prog.underlying 3) .eql r92 r94) fun x96 => Q x96 s95))))) (K7 [] s4))))))) (fun y8 s9 => Q (.lit (.bool true)) s9)))
theorem c9_eq (a0 a1 a2 a3 a4 : HV) (s : HS) (Q : HV → HS → Prop) : (match Tryz.f9.body with | some c => hwp Tryz.prog (fun p => if p = 7 then some [] else none) false 1 c (hretQ Tryz.prog Tryz.f9.results.toList Q) (([a0, a1, a2, a3, a4] : List HV) ++ List.replicate (Tryz.f9.ntmps - 5) (.lit undef)) s | none => False) = c9 a0 a1 a2 a3 a4 s Q := by kernel_rfl
theorem HC9 {a0 a1 a2 a3 a4 : HV} {s : HS} {Q : HV → HS → Prop} (h : c9 a0 a1 a2 a3 a4 s Q) : HC Tryz.prog 9 [a0, a1, a2, a3, a4] s Q := HC_by Tryz.func9 (by have := c9_eq a0 a1 a2 a3 a4 s Q; exact this.mpr h)
/-- cordwain/cordwainalike.Texts -/
def c28 (a0 a1 : HV) (s : HS) (Q : HV → HS → Prop) : Prop :=
  bindO (vLenT (Tryz.prog.underlying 33) s a0) fun x1 => bindO (vLenT (Tryz.prog.underlying 33) s a1) fun x2 => bindO (vCmp (Tryz.prog.underlying 3) .neq x1 x2) fun x3 => hcond x3 (Q (.lit (.bool false)) s) (HLoop (fun y5 s6 K4 => bindO (vLenT (Tryz.prog.underlying 33) s6 a0) fun x7 => bindO (vBin .lss (y5.headD .junk) x7) fun x8 => hcond x8 (bindO (vIdx 1 a0 (y5.headD .junk)) fun x9 => bindO (vLoad s6 x9 1 false) fun x10 => bindO (vIdx 1 a1 (y5.headD .junk)) fun x11 => bindO (vLoad s6 x11 1 false) fun x12 => bindO (vCmp (Tryz.prog.underlying 9) .neq x10 x12) fun x13 => hcond x13 (Q (.lit (.bool false)) s6) (bindO (vBin .add (y5.headD .junk) (.lit (.int .i64 1))) fun x14 => K4 [x14] s6)) (Q (.lit (.bool true)) s6)) [(.lit (.int .i64 0))] s)
theorem c28_eq (a0 a1 : HV) (s : HS) (Q : HV → HS → Prop) : (match Tryz.f28.body with | some c => hwp Tryz.prog (fun p => if p = 58 then some [5] else none) false 1 c (hretQ Tryz.prog Tryz.f28.results.toList Q) (([a0, a1] : List HV) ++ List.replicate (Tryz.f28.ntmps - 2) (.lit undef)) s | none => False) = c28 a0 a1 s Q := by kernel_rfl
theorem HC28 {a0 a1 : HV} {s : HS} {Q : HV → HS → Prop} (h : c28 a0 a1 s Q) : HC Tryz.prog 28 [a0, a1] s Q := HC_by Tryz.func28 (by have := c28_eq a0 a1 s Q; exact this.mpr h)
/-- (*cordwain/cordwainref16.Group).Members -/
def c30 (a0 : HV) (s : HS) (Q : HV → HS → Prop) : Prop :=
  HLoop (fun y2 s3 K1 => bindO (vNil a0) fun x4 => bindO (vField 8 x4) fun x5 => bindO (vLoad s3 x5 1 false) fun x6 => bindO (vLenT (Tryz.prog.underlying 55) s3 x6) fun x7 => bindO (vBin .lss (y2.tail.headD .junk) x7) fun x8 => hcond x8 (bindO (vNil a0) fun x9 => bindO (vField 8 x9) fun x10 => bindO (vLoad s3 x10 1 false) fun x11 => bindO (vIdx 5 x11 (y2.tail.headD .junk)) fun x12 => bindO (vField 0 x12) fun x13 => bindO (vLoad s3 x13 1 false) fun x14 => hBS s3 1 1 [.lit (.string .empty)] [(0, x14)] (fun x15 s16 => hAppend s16 1 16 (y2.headD .junk) x15 (fun x17 s18 => bindO (vBin .add (y2.tail.headD .junk) (.lit (.int .i64 1))) fun x19 => K1 [x17, x19] s18))) (Q (y2.headD .junk) s3)) [(.lit (.slice none 0 0)), (.lit (.int .i64 0))] s
theorem c30_eq (a0 : HV) (s : HS) (Q : HV → HS → Prop) : (match Tryz.f30.body with | some c => hwp Tryz.prog (fun p => if p = 58 then some [3, 4] else none) false 1 c (hretQ Tryz.prog Tryz.f30.results.toList Q) (([a0] : List HV) ++ List.replicate (Tryz.f30.ntmps - 1) (.lit undef)) s | none => False) = c30 a0 s Q := by kernel_rfl
theorem HC30 {a0 : HV} {s : HS} {Q : HV → HS → Prop} (h : c30 a0 s Q) : HC Tryz.prog 30 [a0] s Q := HC_by Tryz.func30 (by have := c30_eq a0 s Q; exact this.mpr h)
/-- (*cordwain/cordwainref16.Group).Leader -/
def c32 (a0 : HV) (s : HS) (Q : HV → HS → Prop) : Prop :=
  bindO (vNil a0) fun x1 => bindO (vField 8 x1) fun x2 => bindO (vLoad s x2 1 false) fun x3 => bindO (vLenT (Tryz.prog.underlying 55) s x3) fun x4 => bindO (vCmp (Tryz.prog.underlying 3) .eql x4 (.lit (.int .i64 0))) fun x5 => hcond x5 (Q (.lit (.string { data := #[] })) s) (bindO (vNil a0) fun x6 => bindO (vField 8 x6) fun x7 => bindO (vLoad s x7 1 false) fun x8 => bindO (vIdx 5 x8 (.lit (.int .i64 0))) fun x9 => bindO (vField 0 x9) fun x10 => bindO (vLoad s x10 1 false) fun x11 => Q x11 s)
theorem c32_eq (a0 : HV) (s : HS) (Q : HV → HS → Prop) : (match Tryz.f32.body with | some c => hwp Tryz.prog (fun p => none) false 1 c (hretQ Tryz.prog Tryz.f32.results.toList Q) (([a0] : List HV) ++ List.replicate (Tryz.f32.ntmps - 1) (.lit undef)) s | none => False) = c32 a0 s Q := by kernel_rfl
theorem HC32 {a0 : HV} {s : HS} {Q : HV → HS → Prop} (h : c32 a0 s Q) : HC Tryz.prog 32 [a0] s Q := HC_by Tryz.func32 (by have := c32_eq a0 s Q; exact this.mpr h)
/-- cordwain/cordwainlaw17.shows -/
def c10 (a0 a1 : HV) (s : HS) (Q : HV → HS → Prop) : Prop :=
  bindO (vNil a1) fun x1 => bindO (vField 3 x1) fun x2 => bindO (vLoad s x2 1 false) fun x3 => HC Tryz.prog 15 [a0] s (fun r4 s5 => (vLoad s5 x2 1 false = vLoad s x2 1 false ∧ bindO (vCmp (Tryz.prog.underlying 3) .eql r4 x3) fun x6 => hcond x6 (bindO (vNil a1) fun x7 => bindO (vField 4 x7) fun x8 => bindO (vLoad s5 x8 1 false) fun x9 => HC Tryz.prog 27 [a0] s5 (fun r10 s11 => (vLoad s11 x8 1 false = vLoad s5 x8 1 false ∧ bindO (vCmp (Tryz.prog.underlying 3) .eql r10 x9) fun x12 => hcond x12 (HC Tryz.prog 29 [a0] s11 (fun r13 s14 => HC Tryz.prog 30 [a1] s14 (fun r15 s16 => HC Tryz.prog 28 [r13, r15] s16 (fun r17 s18 => hcond r17 (HC Tryz.prog 31 [a0] s18 (fun r19 s20 => HC Tryz.prog 32 [a1] s20 (fun r21 s22 => bindO (vCmp (Tryz.prog.underlying 9) .eql r19 r21) fun x23 => hcond x23 (bindO (vNil a1) fun x24 => bindO (vField 10 x24) fun x25 => bindO (vLoad s22 x25 1 false) fun x26 => HC Tryz.prog 34 [a0] s22 (fun r27 s28 => (vLoad s28 x25 1 false = vLoad s22 x25 1 false ∧ HC Tryz.prog 33 [r27, x26] s28 (fun r29 s30 => Q r29 s30)))) ((vLoad s22 (.lit undef) 1 false = vLoad s22 (.lit undef) 1 false ∧ Q (.lit (.bool false)) s22))))) ((vLoad s18 (.lit undef) 1 false = vLoad s18 (.lit undef) 1 false ∧ Q (.lit (.bool false)) s18)))))) ((vLoad s11 (.lit undef) 1 false = vLoad s11 (.lit undef) 1 false ∧ Q (.lit (.bool false)) s11))))) ((vLoad s5 (.lit undef) 1 false = vLoad s5 (.lit undef) 1 false ∧ (vLoad s5 (.lit undef) 1 false = vLoad s5 (.lit undef) 1 false ∧ Q (.lit (.bool false)) s5)))))
theorem c10_eq (a0 a1 : HV) (s : HS) (Q : HV → HS → Prop) : (match Tryz.f10.body with | some c => hwp Tryz.prog (fun p => none) false 1 c (hretQ Tryz.prog Tryz.f10.results.toList Q) (([a0, a1] : List HV) ++ List.replicate (Tryz.f10.ntmps - 2) (.lit undef)) s | none => False) = c10 a0 a1 s Q := by kernel_rfl
theorem HC10 {a0 a1 : HV} {s : HS} {Q : HV → HS → Prop} (h : c10 a0 a1 s Q) : HC Tryz.prog 10 [a0, a1] s Q := HC_by Tryz.func10 (by have := c10_eq a0 a1 s Q; exact this.mpr h)
/-- cordwain/cordwainlaw17.GroupPlays -/
def c3 (a0 a1 a2 a3 a4 a5 : HV) (s : HS) (Q : HV → HS → Prop) : Prop :=
  HC Tryz.prog 4 [a5] s (fun r1 s2 => bindO (vUn .not r1) fun x3 => hcond x3 (HC Tryz.prog 5 [] s2 (fun r4 s5 => Q r4 s5)) (HC Tryz.prog 6 [a0, a1, a2, a3] s2 (fun r6 s7 => bindO (vExtract r6 0) fun x8 => bindO (vExtract r6 1) fun x9 => HC Tryz.prog 7 [a0, a1, a2, a3] s7 (fun r10 s11 => bindO (vExtract r10 0) fun x12 => bindO (vExtract r10 1) fun x13 => Join (fun K14 => bindO (vCmp (Tryz.prog.underlying 3) .neq x9 x13) fun x17 => hcond x17 (K14 [(.lit (.bool true))] s11) (bindO (vCmp (Tryz.prog.underlying 25) .neq x8 (.lit (.pointer none))) fun x18 => bindO (vCmp (Tryz.prog.underlying 29) .neq x12 (.lit (.pointer none))) fun x19 => bindO (vCmp (Tryz.prog.underlying 4) .neq x18 x19) fun x20 => K14 [x20] s11)) (fun y15 s16 => hcond (y15.headD .junk) (Q (.lit (.bool false)) s16) (bindO (vCmp (Tryz.prog.underlying 29) .eql x12 (.lit (.pointer none))) fun x21 => hcond x21 (HC Tryz.prog 5 [] s16 (fun r22 s23 => Q r22 s23)) (HLoop (fun y25 s26 K24 => bindO (vLenT (Tryz.prog.underlying 22) s26 a5) fun x27 => bindO (vBin .lss (y25.tail.headD .junk) x27) fun x28 => hcond x28 (bindO (vIdx 5 a5 (y25.tail.headD .junk)) fun x29 => bindO (vField 4 x29) fun x30 => bindO (vLoad s26 x30 1 false) fun x31 => HC Tryz.prog 8 [x31, (.lit (.int .i64 30))] s26 (fun r32 s33 => bindO (vBin .add (y25.headD .junk) r32) fun x34 => Join (fun K35 => bindO (vIdx 5 a5 (y25.tail.headD .junk)) fun x38 => bindO (vLoad s33 x38 5 true) fun x39 => bindO (vBin .quo (y25.tail.headD .junk) (.lit (.int .i64 10))) fun x40 => bindO (vBin .add a4 x40) fun x41 => HC Tryz.prog 9 [x8, x12, x39, x41, x34] s33 (fun r42 s43 => bindO (vUn .not r42) fun x44 => hcond x44 (K35 [(.lit (.bool true))] s43) (HC Tryz.prog 10 [x8, x12] s43 (fun r45 s46 => bindO (vUn .not r45) fun x47 => K35 [x47] s46)))) (fun y36 s37 => hcond (y36.headD .junk) (Q (.lit (.bool false)) s37) (bindO (vBin .add (y25.tail.headD .junk) (.lit (.int .i64 1))) fun x48 => K24 [x34, x48] s37)))) (HC Tryz.prog 5 [] s26 (fun r49 s50 => Q r49 s50))) [(.lit (.int .i64 0)), (.lit (.int .i64 0))] s16)))))))
theorem c3_eq (a0 a1 a2 a3 a4 a5 : HV) (s : HS) (Q : HV → HS → Prop) : (match Tryz.f3.body with | some c => hwp Tryz.prog (fun p => if p = 62 then some [48] else if p = 2042 then some [17, 18] else if p = 65353 then some [84] else none) false 1 c (hretQ Tryz.prog Tryz.f3.results.toList Q) (([a0, a1, a2, a3, a4, a5] : List HV) ++ List.replicate (Tryz.f3.ntmps - 6) (.lit undef)) s | none => False) = c3 a0 a1 a2 a3 a4 a5 s Q := by kernel_rfl
theorem HC3 {a0 a1 a2 a3 a4 a5 : HV} {s : HS} {Q : HV → HS → Prop} (h : c3 a0 a1 a2 a3 a4 a5 s Q) : HC Tryz.prog 3 [a0, a1, a2, a3, a4, a5] s Q := HC_by Tryz.func3 (by have := c3_eq a0 a1 a2 a3 a4 a5 s Q; exact this.mpr h)
end Go.Proofs.YtkcgokkgefgcjaaGreatDoor.G0
end
section
namespace Go.Proofs.YtkcgokkgefgcjaaGreatDoor.G1
open Go.Proofs.YtkcgokkgefgcjaaGreatDoor.H
set_option linter.unusedVariables false
set_option maxRecDepth 100000
/-- cordwain/assign.Slots$1 -/
def c100 (a0 a1 : HV) (s : HS) (Q : HV → HS → Prop) : Prop :=
  bindO (vLoad s a1 1 false) fun x1 => HC Tryz.prog 58 [x1] s (fun r2 s3 => HC Tryz.prog 101 [r2, (.func (.func 102) [])] s3 (fun r4 s5 => JoinU (fun K6 => bindO (vLenT (Tryz.prog.underlying 40) s5 r2) fun x9 => K6 [r2, x9, (.lit (.int .i64 0))] s5) (fun y7 s8 => HLoop (fun y11 s12 K10 => bindO (vBin .lss (y11.headD .junk) (y7.tail.headD .junk)) fun x13 => hcond x13 (JoinU (fun K14 => bindO (vIdx 2 (y7.headD .junk) (y11.headD .junk)) fun x17 => bindO (vLoad s12 x17 2 true) fun x18 => hNew s12 (.cells [.lit (.string .empty), .lit (.int .i64 0)]) (fun id => .ptr id 0) (fun x19 s20 => hStore s20 x19 x18 2 (fun s21 => K14 [x19] s21))) (fun y15 s16 => bindO (vField 1 (y15.headD .junk)) fun x22 => bindO (vLoad s16 x22 1 false) fun x23 => bindO (hfold vMax2 x23 [(.lit (.int .i64 0))]) fun x24 => HLoop (fun y26 s27 K25 => bindO (vBin .lss (y26.headD .junk) x24) fun x28 => hcond x28 (bindO (vField 0 (y15.headD .junk)) fun x29 => bindO (vLoad s27 x29 1 false) fun x30 => bindO (vMk [(0, 1), (1, 1)] [.lit (.string .empty), .lit (.int .i64 0)] [(0, x30), (1, (y26.headD .junk))]) fun x31 => hcall Tryz.prog a0 [x31] s27 (fun r32 s33 => bindO (vUn .not r32) fun x34 => hcond x34 (Q (.tup []) s33) (bindO (vBin .add (y26.headD .junk) (.lit (.int .i64 1))) fun x35 => K25 [x35] s33))) (bindO (vBin .add (y11.headD .junk) (.lit (.int .i64 1))) fun x36 => K10 [x36] s27)) [(.lit (.int .i64 0))] s16)) (Q (.tup []) s12)) [(y7.tail.tail.headD .junk)] s8)))
theorem c100_eq (a0 a1 : HV) (s : HS) (Q : HV → HS → Prop) : (match Tryz.f100.body with | some c => hwp Tryz.prog (fun p => if p = 7 then some [1000000, 11, 12, 13] else if p = 30 then some [13] else if p = 972 then some [1000000, 5] else if p = 7782 then some [20] else none) false 1 c (hretQ Tryz.prog Tryz.f100.results.toList Q) (([a0, a1] : List HV) ++ List.replicate (Tryz.f100.ntmps - 2) (.lit undef)) s | none => False) = c100 a0 a1 s Q := by kernel_rfl
theorem HC100 {a0 a1 : HV} {s : HS} {Q : HV → HS → Prop} (h : c100 a0 a1 s Q) : HC Tryz.prog 100 [a0, a1] s Q := HC_by Tryz.func100 (by have := c100_eq a0 a1 s Q; exact this.mpr h)
end Go.Proofs.YtkcgokkgefgcjaaGreatDoor.G1
end
section
namespace Go.Proofs.YtkcgokkgefgcjaaGreatDoor.H
open Go.RowKit Go.MapKept
set_option linter.unusedVariables false
set_option linter.unusedSimpArgs false
variable {P : Program} {s : HS}
def IsTok : HObj → Prop
  | .tok _ _ _ => True
  | _ => False
/-- But for a token, all that t knows t' knows. -/
structure Near (idl : Nat) (t t' : HS) : Prop where
  tok : ∀ ob, t idl = some ob → IsTok ob
  rest : ∀ k ob, k ≠ idl → t k = some ob → t' k = some ob
theorem Near.ob {idl : Nat} {t t' : HS} (h : Near idl t t') {k : Nat} {ob : HObj} (hk : t k = some ob) (ho : ¬ IsTok ob) : t' k = some ob :=
  h.rest k ob (by rintro rfl; exact ho (h.tok _ hk)) hk
theorem Near.cells {idl : Nat} {t t' : HS} (h : Near idl t t') {k : Nat} {cs : List HV} (hk : t k = some (.cells cs)) : t' k = some (.cells cs) := h.ob hk (fun h => h)
theorem Near.map {idl : Nat} {t t' : HS} (h : Near idl t t') {k : Nat} {d : TypeDesc} {f : Value → Option HV} {n : Nat} (hk : t k = some (.map d f n)) : t' k = some (.map d f n) := h.ob hk (fun h => h)
theorem Near.le {idl : Nat} {b t t' : HS} (h : Near idl t t') (hb : HS.le b t) (hn : b idl = none) : HS.le b t' := fun k ob hk => h.rest k ob (by rintro rfl; rw [hn] at hk; cases hk) (hb k ob hk)
theorem Near.acc {idl : Nat} {b t t' : HS} {sz : Nat} {A : HV} {n : Nat} {cs : List HV} (h : Near idl t t') (ha : Acc b t sz A n cs) : Acc b t' sz A n cs := ha.keep fun q ob hq hob => by
  have := (ha.free hq).2
  rw [hob] at this
  cases this
  exact h.cells hob
/-- What a round is given may be told otherwise. -/
theorem HY.upArgs {id : Nat} {args args' : List HV} {s s' : HS} {K : HV → HS → Prop} (hu : UpL args s args' s') (h : HY P id args' s' K) : HY P id args s K := by
  intro m w cargs l hR hl hn ha
  obtain ⟨m', g1, g2, g3, g4⟩ := hu m w cargs.toList hR ⟨by simpa using hn, fun j x hj => by have := ha j x hj; simpa [List.getD, Array.getD_eq_getD_getElem?] using this⟩
  obtain ⟨fn, tmps, asg, body, h1, h2⟩ := h m' w cargs l g2 (g1.loc _ _ hl) (by simpa using g3) (fun j x hj => by have := g4 j x hj; simpa [List.getD, Array.getD_eq_getD_getElem?] using this)
  refine ⟨fn, tmps, asg, body, h1, RoundIn.mono h2 ?_⟩
  rintro e w' ⟨cv, v, s'', m'', k1, k2, k3, k4, k5⟩
  exact ⟨cv, v, s'', m'', k1, g1.trans k2, k3, k4, k5⟩
/-- Function f, which captures caps, gives yield the rows enc 0 .. enc (n-1), one behind the other, till it says no. -/
def Gives (P : Program) (f : FuncId) (caps : List HV) (n : Nat) (enc : Nat → List HV) (s : HS) : Prop :=
  ∀ (idl : Nat) (J : Nat → HS → Prop) (E : HS → Prop) (s' : HS), HS.le s s' → (∀ i t t', J i t → HS.le t t' → J i t') →
    (∀ (i : Nat) (t : HS) (K : HV → HS → Prop), i < n → J i t → (∀ t', J (i + 1) t' → K (.lit (.bool true)) t') → (∀ t', E t' → K (.lit (.bool false)) t') → HY P idl (enc i) t K) →
    J 0 s' → HC P f (.yld idl :: caps) s' fun v t => J n t ∨ E t
theorem Gives.le {f : FuncId} {caps : List HV} {n : Nat} {enc : Nat → List HV} {s' : HS} (h : Gives P f caps n enc s) (hle : HS.le s s') : Gives P f caps n enc s' :=
  fun idl J E s2 h2 => h idl J E s2 (fun k ob hk => h2 k ob (hle k ob hk))
theorem HRange.seq {f : FuncId} {caps env : List HV} {n n1 : Nat} {enc : Nat → List HV} {B : (HS → (HS → Prop) → Prop) → List HV → HS → (Exit → HS → Prop) → Prop} {Qn Qr : HS → Prop} {Qx : Nat → HS → Prop}
    (hp : plainFn P f = true) (it : Gives P f caps n enc s) (hl : ∀ i, i < n → (enc i).length = n1) (I : Nat → HS → Prop) (Er : HS → Prop) (Ex : Nat → HS → Prop)
    (hI : ∀ idl i t t', s idl = none → Near idl t t' → I i t → I i t') (hEr : ∀ idl t t', s idl = none → Near idl t t' → Er t → Er t') (hEx : ∀ idl i t t', s idl = none → Near idl t t' → Ex i t → Ex i t')
    (h0 : I 0 s) (hn : ∀ t, I n t → Qn t) (hr : ∀ t, Er t → Qr t) (hx : ∀ i t, Ex i t → Qx i t)
    (round : ∀ (i : Nat) (t : HS) (idl : Nat) (R0 R1 : HObj) (K : Exit → HS → Prop), i < n → s idl = none → t idl = some R0 → I i t → (∀ t', t' idl = some R1 → I (i + 1) t' → K .normal t') →
      (∀ t', t' idl = some R1 → Er t' → K .ret t') → (∀ j t', t' idl = some R1 → Ex j t' → K (.exit j) t') → IsTok R0 → IsTok R1 → B (fun t' G => t' idl = some R0 ∧ G (t'.set idl R1)) (enc i) t K) :
    HRange P (.func (.func f) caps) n1 env B s Qn Qr Qx := by
  unfold HRange
  simp only
  rw [hite_eq, if_pos hp]
  intro idl r hid hrounds
  have near : ∀ {t t' : HS} {st : Option (Option Code)}, t idl = some (.tok r env st) → (∀ k ob, k ≠ idl → t k = some ob → t' k = some ob) → Near idl t t' := fun h1 h2 => ⟨fun ob ho => by rw [h1] at ho; cases ho; exact True.intro, h2⟩
  have setN : ∀ (t : HS) (o : HObj) k ob, k ≠ idl → t k = some ob → (t.set idl o) k = some ob := fun t o k ob hk h => by simp only [HS.set, if_neg hk]; exact h
  have delN : ∀ (t : HS) k ob, k ≠ idl → t k = some ob → (t.del idl) k = some ob := fun t k ob hk h => by simp only [HS.del, if_neg hk]; exact h
  refine (it idl (fun i t => t idl = some (.tok r env (some none)) ∧ I i t) (fun t => (t idl = some (.tok r env (some (some .ret))) ∧ Er t) ∨ ∃ i, t idl = some (.tok r env (some (some (.exit i)))) ∧ Ex i t) (s.set idl (.tok r env (some none))) ?_ ?_ ?_ ?_).mono ?_
  · intro k ob hk
    exact setN s _ k ob (by rintro rfl; rw [hid] at hk; cases hk) hk
  · rintro i t t' ⟨h1, h2⟩ hle
    exact ⟨hle _ _ h1, hI idl i t t' hid (near h1 fun k ob _ hk => hle k ob hk) h2⟩
  · rintro i t K hi ⟨h1, h2⟩ hT hF
    refine hrounds (enc i) t K h1 (hl i hi) ?_
    refine round i t idl _ _ _ hi hid h1 h2 (fun t' g1 g2 => ⟨g1, ?_⟩) (fun t' g1 g2 => ⟨g1, ?_⟩) (fun j t' g1 g2 => ⟨g1, ?_⟩) True.intro True.intro
    · exact hT _ ⟨by simp [HS.set], hI idl _ _ _ hid (near g1 (setN t' _)) g2⟩
    · exact hF _ (.inl ⟨by simp [HS.set], hEr idl _ _ hid (near g1 (setN t' _)) g2⟩)
    · exact hF _ (.inr ⟨j, by simp [HS.set], hEx idl _ _ _ hid (near g1 (setN t' _)) g2⟩)
  · exact ⟨by simp [HS.set], hI idl 0 s _ hid ⟨fun ob ho => (by rw [hid] at ho; cases ho), setN s _⟩ h0⟩
  · rintro v t (⟨h1, h2⟩ | ⟨h1, h2⟩ | ⟨i, h1, h2⟩)
    · exact .inl ⟨h1, hn _ (hI idl _ _ _ hid (near h1 (delN t)) h2)⟩
    · exact .inr (.inl ⟨h1, hr _ (hEr idl _ _ hid (near h1 (delN t)) h2)⟩)
    · exact .inr (.inr ⟨i, h1, hx _ _ (hEx idl _ _ _ hid (near h1 (delN t)) h2)⟩)
/-- So does it, when what it reads lies still. -/
def GivesL (P : Program) (f : FuncId) (caps : List HV) (n : Nat) (enc : Nat → List HV) (s : HS) : Prop :=
  ∀ (idl : Nat) (J : Nat → HS → Prop) (E : HS → Prop) (s' : HS), HS.le s s' → (∀ i t t', J i t → HS.le t t' → J i t') → (∀ i t, J i t → HS.le s t) →
    (∀ (i : Nat) (t : HS) (K : HV → HS → Prop), i < n → J i t → (∀ t', J (i + 1) t' → K (.lit (.bool true)) t') → (∀ t', E t' → K (.lit (.bool false)) t') → HY P idl (enc i) t K) →
    J 0 s' → HC P f (.yld idl :: caps) s' fun v t => J n t ∨ E t
theorem Gives.toL {f : FuncId} {caps : List HV} {n : Nat} {enc : Nat → List HV} (h : Gives P f caps n enc s) : GivesL P f caps n enc s := fun idl J E s' h1 h2 _ h3 h4 => h idl J E s' h1 h2 h3 h4
theorem HRange.seqL {f : FuncId} {caps env : List HV} {n n1 : Nat} {enc : Nat → List HV} {B : (HS → (HS → Prop) → Prop) → List HV → HS → (Exit → HS → Prop) → Prop} {Qn Qr : HS → Prop} {Qx : Nat → HS → Prop}
    (hp : plainFn P f = true) {s0 : HS} (hs0 : HS.le s0 s) (it : GivesL P f caps n enc s0) (hl : ∀ i, i < n → (enc i).length = n1) (I : Nat → HS → Prop) (Er : HS → Prop) (Ex : Nat → HS → Prop)
    (hIs : ∀ i t, I i t → HS.le s0 t) (hI : ∀ idl i t t', s idl = none → Near idl t t' → I i t → I i t') (hEr : ∀ idl t t', s idl = none → Near idl t t' → Er t → Er t') (hEx : ∀ idl i t t', s idl = none → Near idl t t' → Ex i t → Ex i t')
    (h0 : I 0 s) (hn : ∀ t, I n t → Qn t) (hr : ∀ t, Er t → Qr t) (hx : ∀ i t, Ex i t → Qx i t)
    (round : ∀ (i : Nat) (t : HS) (idl : Nat) (R0 R1 : HObj) (K : Exit → HS → Prop), i < n → s idl = none → t idl = some R0 → I i t → (∀ t', t' idl = some R1 → I (i + 1) t' → K .normal t') →
      (∀ t', t' idl = some R1 → Er t' → K .ret t') → (∀ j t', t' idl = some R1 → Ex j t' → K (.exit j) t') → IsTok R0 → IsTok R1 → B (fun t' G => t' idl = some R0 ∧ G (t'.set idl R1)) (enc i) t K) :
    HRange P (.func (.func f) caps) n1 env B s Qn Qr Qx := by
  unfold HRange
  simp only
  rw [hite_eq, if_pos hp]
  intro idl r hid hrounds
  have near : ∀ {t t' : HS} {st : Option (Option Code)}, t idl = some (.tok r env st) → (∀ k ob, k ≠ idl → t k = some ob → t' k = some ob) → Near idl t t' := fun h1 h2 => ⟨fun ob ho => by rw [h1] at ho; cases ho; exact True.intro, h2⟩
  have setN : ∀ (t : HS) (o : HObj) k ob, k ≠ idl → t k = some ob → (t.set idl o) k = some ob := fun t o k ob hk h => by simp only [HS.set, if_neg hk]; exact h
  have delN : ∀ (t : HS) k ob, k ≠ idl → t k = some ob → (t.del idl) k = some ob := fun t k ob hk h => by simp only [HS.del, if_neg hk]; exact h
  refine (it idl (fun i t => t idl = some (.tok r env (some none)) ∧ I i t) (fun t => (t idl = some (.tok r env (some (some .ret))) ∧ Er t) ∨ ∃ i, t idl = some (.tok r env (some (some (.exit i)))) ∧ Ex i t) (s.set idl (.tok r env (some none))) ?_ ?_ (fun i t h => hIs i t h.2) ?_ ?_).mono ?_
  · intro k ob hk0
    have hk := hs0 k ob hk0
    exact setN s _ k ob (by rintro rfl; rw [hid] at hk; cases hk) hk
  · rintro i t t' ⟨h1, h2⟩ hle
    exact ⟨hle _ _ h1, hI idl i t t' hid (near h1 fun k ob _ hk => hle k ob hk) h2⟩
  · rintro i t K hi ⟨h1, h2⟩ hT hF
    refine hrounds (enc i) t K h1 (hl i hi) ?_
    refine round i t idl _ _ _ hi hid h1 h2 (fun t' g1 g2 => ⟨g1, ?_⟩) (fun t' g1 g2 => ⟨g1, ?_⟩) (fun j t' g1 g2 => ⟨g1, ?_⟩) True.intro True.intro
    · exact hT _ ⟨by simp [HS.set], hI idl _ _ _ hid (near g1 (setN t' _)) g2⟩
    · exact hF _ (.inl ⟨by simp [HS.set], hEr idl _ _ hid (near g1 (setN t' _)) g2⟩)
    · exact hF _ (.inr ⟨j, by simp [HS.set], hEx idl _ _ _ hid (near g1 (setN t' _)) g2⟩)
  · exact ⟨by simp [HS.set], hI idl 0 s _ hid ⟨fun ob ho => (by rw [hid] at ho; cases ho), setN s _⟩ h0⟩
  · rintro v t (⟨h1, h2⟩ | ⟨h1, h2⟩ | ⟨i, h1, h2⟩)
    · exact .inl ⟨h1, hn _ (hI idl _ _ _ hid (near h1 (delN t)) h2)⟩
    · exact .inr (.inl ⟨h1, hr _ (hEr idl _ _ hid (near h1 (delN t)) h2)⟩)
    · exact .inr (.inr ⟨i, h1, hx _ _ (hEx idl _ _ _ hid (near h1 (delN t)) h2)⟩)
end Go.Proofs.YtkcgokkgefgcjaaGreatDoor.H
end
section
namespace Go.Proofs.YtkcgokkgefgcjaaGreatDoor.H
open Go.RowKit Go.MapKept
set_option linter.unusedVariables false
set_option linter.unusedSimpArgs false
theorem put_rows {α : Type} {enc : α → List HV} {sz : Nat} (h : ∀ x, (enc x).length = sz) (v : α) (rest : List HV) : ∀ (l : List α) (i : Nat), i < l.length → putCells (rows enc l ++ rest) (i * sz) (enc v) = rows enc (l.set i v) ++ rest
  | x :: l, 0, _ => by
    simp only [putCells, Nat.zero_mul, List.take_zero, List.nil_append, Nat.zero_add, List.set_cons_zero, rows_cons, h, List.append_assoc]
    rw [List.drop_append, List.drop_of_length_le (by rw [h]; omega), List.nil_append, h, Nat.sub_self, List.drop_zero]
  | x :: l, i + 1, hi => by
    have ih := put_rows h v rest l i (by simpa using hi)
    simp only [putCells, List.set_cons_succ, rows_cons, List.append_assoc] at ih ⊢
    rw [← ih, Nat.add_mul, Nat.one_mul]
    rw [List.take_append, List.take_of_length_le (by rw [h]; omega), h, Nat.add_sub_cancel, List.append_assoc]
    congr 1
    congr 1
    congr 1
    rw [h, List.drop_append, List.drop_of_length_le (by rw [h]; omega), List.nil_append, h]
    congr 1
    omega
theorem idx_view {q off sz n : Nat} {f : Bool} {i : Nat} (k : IntKind) (hi : i < n) : vIdx sz (.view q off sz n f) (.lit (.int k i)) = some (.ptr q (off + i * sz)) := by
  have h1 : (i : Int) < (n : Int) := by omega
  simp [vIdx, h1]
theorem load_rows {α : Type} {enc : α → List HV} {sz : Nat} (h : ∀ x, (enc x).length = sz) (z : α) {s : HS} {q : Nat} {l : List α} {rest : List HV} (hq : s q = some (.cells (rows enc l ++ rest))) {i : Nat} (hi : i < l.length) :
    vLoad s (.ptr q (i * sz)) sz true = some (.agg (enc (l.getD i z))) := by
  have hl : (rows enc l).length = l.length * sz := rows_len h l
  have h2 : i * sz + sz ≤ l.length * sz := by
    have := Nat.mul_le_mul_right sz (show i + 1 ≤ l.length from hi)
    rw [Nat.add_mul, Nat.one_mul] at this
    exact this
  have h3 : ((rows enc l ++ rest).drop (i * sz)).take sz = enc (l.getD i z) := by
    rw [List.drop_append_of_le_length (by omega), List.take_append_of_le_length (by simp; omega)]
    exact rows_idx h z l i hi
  simp only [vLoad, hq, takeCells, if_true, h3]
  rw [if_pos (by rw [List.length_append]; omega)]
theorem load_rows1 {α : Type} {enc : α → List HV} {sz : Nat} (h : ∀ x, (enc x).length = sz) (z : α) {s : HS} {q : Nat} {l : List α} {rest : List HV} (hq : s q = some (.cells (rows enc l ++ rest))) {i j n : Nat} (hi : i < l.length) (hj : j < sz) :
    vLoad s (.ptr q (i * sz + j)) n false = (enc (l.getD i z))[j]? := by
  have h3 := rows_idx h z l i hi
  have hl : (rows enc l).length = l.length * sz := rows_len h l
  have h2 : i * sz + sz ≤ l.length * sz := by
    have := Nat.mul_le_mul_right sz (show i + 1 ≤ l.length from hi)
    rw [Nat.add_mul, Nat.one_mul] at this
    exact this
  simp only [vLoad, hq, takeCells, Bool.false_eq_true, if_false]
  rw [← h3, List.getElem?_take, if_pos hj, List.getElem?_drop, List.getElem?_append_left (by omega)]
theorem load_cell {t : HS} {q : Nat} {cs : List HV} (off n : Nat) (h : t q = some (.cells cs)) : vLoad t (.ptr q off) n false = cs[off]? := by simp [vLoad, takeCells, h]
theorem load_all {t : HS} {q n : Nat} {cs : List HV} (hn : cs.length = n) (h : t q = some (.cells cs)) : vLoad t (.ptr q 0) n true = some (.agg cs) := by
  subst hn
  simp [vLoad, takeCells, h]
/-- A value is put into a box of its size. -/
theorem store_all {s : HS} {q n : Nat} {cs vs : List HV} {K : HS → Prop} (hq : s q = some (.cells cs)) (hc : cs.length = n) (hv : vs.length = n) (ho : ∀ x ∈ vs, hone x = true) (h : K (s.set q (.cells vs))) : hStore s (.ptr q 0) (.agg vs) n K := by
  unfold hStore
  simp only [hcells, hq]
  refine ⟨hv, by omega, ho, ?_⟩
  have e : putCells cs 0 vs = vs := by
    unfold putCells
    rw [List.take_zero, List.nil_append, List.drop_of_length_le (by omega), List.append_nil]
  rw [e]
  exact h
/-- A new box that a value is put into. -/
theorem new_store {s : HS} {n : Nat} {zs vs : List HV} {K : HV → HS → Prop} (hz : zs.length = n) (hv : vs.length = n) (ho : ∀ x ∈ vs, hone x = true) (h : ∀ q, s q = none → K (.ptr q 0) (s.set q (.cells vs))) :
    hNew s (.cells zs) (fun id => .ptr id 0) (fun x t => hStore t x (.agg vs) n (fun t' => K x t')) := by
  intro q hq
  refine store_all (s := s.set q (.cells zs)) (by simp [HS.set]) hz hv ho ?_
  have : (s.set q (.cells zs)).set q (.cells vs) = s.set q (.cells vs) := by funext k; simp only [HS.set]; split <;> rfl
  rw [this]
  exact h q hq
/-- An element is put into a row. -/
theorem store_rows {α : Type} {enc : α → List HV} {sz : Nat} (h : ∀ x, (enc x).length = sz) {s : HS} {q : Nat} {l : List α} {rest : List HV} (hq : s q = some (.cells (rows enc l ++ rest))) {i : Nat} (hi : i < l.length) (v : α)
    (ho : ∀ x ∈ enc v, hone x = true) {K : HS → Prop} (hK : K (s.set q (.cells (rows enc (l.set i v) ++ rest)))) : hStore s (.ptr q (i * sz)) (.agg (enc v)) sz K := by
  have hl : (rows enc l).length = l.length * sz := rows_len h l
  have h2 : i * sz + sz ≤ l.length * sz := by
    have := Nat.mul_le_mul_right sz (show i + 1 ≤ l.length from hi)
    rw [Nat.add_mul, Nat.one_mul] at this
    exact this
  unfold hStore
  simp only [hcells, hq]
  refine ⟨h v, by rw [List.length_append]; omega, ho, ?_⟩
  rw [put_rows h v rest l i hi]
  exact hK
theorem slice_view_hi {q off sz n : Nat} {f : Bool} {hi : Nat} (k : IntKind) (h1 : hi ≤ n) : vSlice sz (.view q off sz n f) none (some (.lit (.int k hi))) none = some (.view q off sz hi (f && hi == n)) := by
  have h3 : (hi : Int) ≤ (n : Int) := by omega
  simp [vSlice, cutAt, intAt, h3]
theorem slice_view_lo {q off sz n : Nat} {f : Bool} {lo : Nat} (k : IntKind) (h1 : lo ≤ n) : vSlice sz (.view q off sz n f) (some (.lit (.int k lo))) none none = some (.view q (off + lo * sz) sz (n - lo) f) := by
  have h3 : (lo : Int) ≤ (n : Int) := by omega
  simp [vSlice, cutAt, intAt, h3]
/-- What is left of a row, when the end of it is made zero. -/
theorem clear_tail {α : Type} {enc : α → List HV} {sz : Nat} (h : ∀ x, (enc x).length = sz) (hz0 : 0 < sz) {z : Value} (hz : z.cells.size = sz) {s : HS} {q : Nat} {l : List α} {rest : List HV} (hq : s q = some (.cells (rows enc l ++ rest))) {i : Nat} (hi : i ≤ l.length) {f : Bool} {K : HS → Prop}
    (hK : ∀ rest', K (s.set q (.cells (rows enc (l.take i) ++ rest')))) : hClear s sz z (.view q (0 + i * sz) sz (l.length - i) f) K := by
  have hl : (rows enc l).length = l.length * sz := rows_len h l
  have h2 : i * sz + (l.length - i) * sz = l.length * sz := by rw [← Nat.add_mul]; congr 1; omega
  unfold hClear
  simp only [hq]
  refine ⟨trivial, by rw [List.length_append]; omega, ?_⟩
  have e : putCells (rows enc l ++ rest) (0 + i * sz) (zcells z ((l.length - i) * sz)) = rows enc (l.take i) ++ (zcells z ((l.length - i) * sz) ++ (rows enc l ++ rest).drop (0 + i * sz + (zcells z ((l.length - i) * sz)).length)) := by
    unfold putCells
    rw [Nat.zero_add, List.take_append_of_le_length (by omega), rows_take h, List.append_assoc]
  rw [e]
  exact hK _
end Go.Proofs.YtkcgokkgefgcjaaGreatDoor.H
end
section
namespace Go.Proofs.YtkcgokkgefgcjaaGreatDoor.H
open Go.RowKit Go.MapKept
set_option linter.unusedVariables false
set_option linter.unusedSimpArgs false
variable {P : Program}
def idxI {α : Type} (p : α → Bool) (l : List α) : Int := match l.findIdx? p with | some i => (i : Int) | none => -1
theorem idxI_at {α : Type} {p : α → Bool} {l : List α} {i : Nat} (hi : i < l.length) (h : ∀ x ∈ l.take i, p x = false) (hp : p l[i] = true) : idxI p l = (i : Int) := by
  have : l.findIdx? p = some i := by
    rw [List.findIdx?_eq_some_iff_getElem]
    refine ⟨hi, hp, fun j hj => ?_⟩
    have := h l[j] (List.mem_take_iff_getElem.2 ⟨j, by omega, rfl⟩)
    simp [this]
  simp [idxI, this]
theorem idxI_none {α : Type} {p : α → Bool} {l : List α} (h : ∀ x ∈ l, p x = false) : idxI p l = -1 := by
  have : l.findIdx? p = none := List.findIdx?_eq_none_iff.2 h
  simp [idxI, this]
theorem idxI_cases {α : Type} (p : α → Bool) (l : List α) : (idxI p l = -1 ∧ ∀ x ∈ l, p x = false) ∨ ∃ i, ∃ hi : i < l.length, idxI p l = (i : Int) ∧ p l[i] = true ∧ ∀ x ∈ l.take i, p x = false := by
  cases h : l.findIdx? p with
  | none => exact .inl ⟨by simp [idxI, h], List.findIdx?_eq_none_iff.1 h⟩
  | some i =>
    rw [List.findIdx?_eq_some_iff_getElem] at h
    obtain ⟨hi, hp, hj⟩ := h
    have ht : ∀ x ∈ l.take i, p x = false := fun x hx => by
      obtain ⟨j, hj1, rfl⟩ := List.mem_take_iff_getElem.1 hx
      have := hj j (by omega)
      simpa using this
    exact .inr ⟨i, hi, idxI_at hi ht hp, hp, ht⟩
theorem wrap_add1 {i : Nat} (h : i < 9223372036854775807) : IntKind.i64.wrap ((i : Int) + 1) = ((i + 1 : Nat) : Int) := by rw [w64 (by omega) (by omega)]; omega
theorem getD_get {α : Type} (z : α) (l : List α) {i : Nat} (h : i < l.length) : l.getD i z = l[i] := by simp [List.getD, h]
/-- slices.IndexFunc: the row lies in memory. -/
theorem idxFunc_gen {e sz : Nat} {α : Type} {enc : α → List HV} (h : ∀ x, (enc x).length = sz) (z : α) (p : α → Bool) {a1 : HV} {q : Nat} {l : List α} {rest : List HV} {f : Bool} {s : HS} {Q : HV → HS → Prop}
    (hq : s q = some (.cells (rows enc l ++ rest))) (hl : l.length < 9223372036854775807)
    (hp : ∀ x ∈ l, ∀ K : HV → HS → Prop, K (.lit (.bool (p x))) s → hcall P a1 [.agg (enc x)] s K) (hQ : Q (.lit (.int .i64 (idxI p l))) s) :
    bindO (vLenT (some (.slice e)) s (.view q 0 sz l.length f)) fun x1 => HLoop (fun y3 s4 K2 => bindO (vBin .lss (y3.headD .junk) x1) fun x5 => hcond x5 (bindO (vIdx sz (.view q 0 sz l.length f) (y3.headD .junk)) fun x6 => bindO (vLoad s4 x6 sz true) fun x7 => hcall P a1 [x7] s4 (fun r8 s9 => hcond r8 (Q (y3.headD .junk) s9) (bindO (vBin .add (y3.headD .junk) (.lit (.int .i64 1))) fun x10 => K2 [x10] s9))) (Q (.lit (.int .i64 (-1))) s4)) [(.lit (.int .i64 0))] s := by
  simp only [vLenT, vLen, bindO]
  refine HLoop.ghost (σ := Nat) (fun i => [.lit (.int .i64 (i : Int))]) (fun i t => i ≤ l.length ∧ t = s ∧ ∀ x ∈ l.take i, p x = false) (fun i => l.length - i) 0 rfl ⟨Nat.zero_le _, rfl, by simp⟩ ?_
  rintro i t K ⟨hi, rfl, ht⟩ hK
  simp only [List.headD_cons, vBin, if_true, hcond]
  by_cases hlt : i < l.length
  · have hlt' : (i : Int) < (l.length : Int) := by omega
    have hg := getD_get z l hlt
    simp only [hlt', decide_true, idx_view _ hlt, Nat.zero_add, load_rows h z hq hlt, hg]
    refine hp _ (List.getElem_mem hlt) _ ?_
    cases hpx : p l[i] with
    | true =>
      have := idxI_at hlt ht hpx
      rw [this] at hQ
      exact hQ
    | false =>
      simp only [wrap_add1 (show i < 9223372036854775807 by omega)]
      refine hK (i + 1) _ _ rfl ⟨hlt, rfl, fun x hx => ?_⟩ (by omega)
      rw [take_succ' z l hlt, hg, List.mem_append, List.mem_singleton] at hx
      rcases hx with hx | rfl
      · exact ht x hx
      · exact hpx
  · have hlt' : ¬ (i : Int) < (l.length : Int) := by omega
    rw [List.take_of_length_le (by omega)] at ht
    rw [idxI_none ht] at hQ
    simp only [hlt', decide_false]
    exact hQ
theorem idxFunc_nil {e sz : Nat} {a1 : HV} {s : HS} {Q : HV → HS → Prop} (hQ : Q (.lit (.int .i64 (-1))) s) :
    bindO (vLenT (some (.slice e)) s nilV) fun x1 => HLoop (fun y3 s4 K2 => bindO (vBin .lss (y3.headD .junk) x1) fun x5 => hcond x5 (bindO (vIdx sz nilV (y3.headD .junk)) fun x6 => bindO (vLoad s4 x6 sz true) fun x7 => hcall P a1 [x7] s4 (fun r8 s9 => hcond r8 (Q (y3.headD .junk) s9) (bindO (vBin .add (y3.headD .junk) (.lit (.int .i64 1))) fun x10 => K2 [x10] s9))) (Q (.lit (.int .i64 (-1))) s4)) [(.lit (.int .i64 0))] s := by
  simp only [vLenT, vLen, bindO]
  refine HLoop.ghost (σ := Nat) (fun i => [.lit (.int .i64 (i : Int))]) (fun i t => t = s ∧ i = 0) (fun i => 0) 0 rfl ⟨rfl, rfl⟩ ?_
  rintro i t K ⟨rfl, rfl⟩ hK
  exact hQ
end Go.Proofs.YtkcgokkgefgcjaaGreatDoor.H
end
section
namespace Go.Proofs.YtkcgokkgefgcjaaGreatDoor.H
open Go.RowKit Go.MapKept
set_option linter.unusedVariables false
set_option linter.unusedSimpArgs false
variable {P : Program}
/-- A row that grows and shrinks: behind it there may be cells. -/
def AccX (b t : HS) (sz : Nat) (A : HV) (n : Nat) (cs : List HV) : Prop :=
  (A = nilV ∧ cs = [] ∧ n = 0) ∨ ∃ q f rest k, b q = none ∧ A = .view q 0 sz n f ∧ t q = some (.cells (cs ++ rest)) ∧ cs.length = n * sz ∧ rest.length = k * sz
theorem Acc.toX {b t : HS} {sz : Nat} {A : HV} {n : Nat} {cs : List HV} (h : Acc b t sz A n cs) : AccX b t sz A n cs := by
  rcases h with h | ⟨q, f, h1, h2, h3, h4, h5⟩
  · exact .inl h
  · exact .inr ⟨q, f, [], 0, h1, h2, by rw [List.append_nil]; exact h3, h4, by simp⟩
theorem AccX.one {b t : HS} {sz : Nat} {A : HV} {n : Nat} {cs : List HV} (h : AccX b t sz A n cs) : hone A = true := by
  rcases h with ⟨rfl, -⟩ | ⟨q, f, r, k, -, rfl, -⟩ <;> rfl
theorem AccX.hc {b t : HS} {sz : Nat} {A : HV} {n : Nat} {cs : List HV} (h : AccX b t sz A n cs) : hcells A = some [A] := by
  rcases h with ⟨rfl, -⟩ | ⟨q, f, r, k, -, rfl, -⟩ <;> rfl
theorem AccX.len {b t : HS} {sz : Nat} {A : HV} {n : Nat} {cs : List HV} (h : AccX b t sz A n cs) (e : Nat) (s : HS) : vLenT (some (.slice e)) s A = some (.lit (.int .i64 n)) := by
  rcases h with ⟨rfl, -, rfl⟩ | ⟨q, f, r, k, -, rfl, -⟩ <;> rfl
theorem AccX.free {b t : HS} {sz : Nat} {A : HV} {n : Nat} {cs : List HV} (h : AccX b t sz A n cs) {q : Nat} (hq : accId A = some q) : b q = none ∧ ∃ rest, t q = some (.cells (cs ++ rest)) := by
  rcases h with ⟨rfl, -⟩ | ⟨q', f, r, k, h1, rfl, h2, -⟩
  · cases hq
  · cases hq; exact ⟨h1, r, h2⟩
theorem AccX.keep {b t t' : HS} {sz : Nat} {A : HV} {n : Nat} {cs : List HV} (h : AccX b t sz A n cs) (hk : ∀ q ob, accId A = some q → t q = some ob → t' q = some ob) : AccX b t' sz A n cs := by
  rcases h with h | ⟨q, f, r, k, h1, rfl, h2, h3⟩
  · exact .inl h
  · exact .inr ⟨q, f, r, k, h1, rfl, hk q _ rfl h2, h3⟩
theorem AccX.le {b t t' : HS} {sz : Nat} {A : HV} {n : Nat} {cs : List HV} (h : AccX b t sz A n cs) (hle : HS.le t t') : AccX b t' sz A n cs := h.keep fun q ob _ hq => hle _ _ hq
theorem AccX.new {b t : HS} {sz : Nat} {A : HV} {n : Nat} {cs : List HV} (h : AccX b t sz A n cs) {X : Nat} (o : HObj) (hX : t X = none) : AccX b (t.set X o) sz A n cs :=
  h.keep fun q ob _ hq => by rw [set_ne _ _ (ne_new hq hX)]; exact hq
theorem AccX.put {b t : HS} {sz : Nat} {A : HV} {n : Nat} {cs : List HV} (h : AccX b t sz A n cs) {X : Nat} (o : HObj) (hX : accId A ≠ some X) : AccX b (t.set X o) sz A n cs :=
  h.keep fun q ob hq hq2 => by rw [set_ne _ _ (by rintro rfl; exact hX hq)]; exact hq2
theorem AccX.base {b b' t : HS} {sz : Nat} {A : HV} {n : Nat} {cs : List HV} (h : AccX b t sz A n cs) (hle : HS.le b' b) : AccX b' t sz A n cs := by
  rcases h with h | ⟨q, f, r, k, h1, h2⟩
  · exact .inl h
  · exact .inr ⟨q, f, r, k, none_of_le hle h1, h2⟩
theorem AccX.cells {b t : HS} {sz : Nat} {A : HV} {n : Nat} {cs : List HV} (h : AccX b t sz A n cs) : lcells t sz A = some cs := by
  rcases h with ⟨rfl, rfl, rfl⟩ | ⟨q, f, r, k, h1, rfl, h3, h4, h5⟩
  · rfl
  · have e : (cs ++ r).take (n * sz) = cs := by rw [← h4]; exact List.take_left
    simp [lcells, h3, h4, e]
theorem AccX.llen {b t : HS} {sz : Nat} {A : HV} {n : Nat} {cs : List HV} (h : AccX b t sz A n cs) : llen A = n := by
  rcases h with ⟨rfl, rfl, rfl⟩ | ⟨q, f, r, k, h1, rfl, h3, h4, h5⟩ <;> rfl
/-- One more behind it. -/
theorem AccX.app1W {b t : HS} {sz by_ : Nat} {A : HV} {n : Nat} {cs zs : List HV} {W : HS → Prop} {K : HV → HS → Prop} (h : AccX b t sz A n cs) (hb : HS.le b t) (hsz : 0 < sz) {x : HV} {vs : List HV} (hx : hcells x = some vs) (hv : vs.length = sz) (hz : zs.length = sz)
    (hroom : room (n + 1) by_) (hW : ∀ id, t id = none → W (t.set id (.cells vs)))
    (hK : ∀ A' t', AccX b t' sz A' (n + 1) (cs ++ vs) → HS.le b t' → (∀ q ob, accId A ≠ some q → t q = some ob → t' q = some ob ∧ accId A' ≠ some q) → K A' t') : hBS t sz 1 zs [(0, x)] (fun v s => W s ∧ hAppend s sz by_ A v K) := by
  have hf : hfill (fun i => some (i * sz, sz)) zs [(0, x)] = some vs := by
    simp only [hfill, hx, Nat.zero_mul, Nat.zero_add, hv, hz, Nat.le_refl, and_self, if_true, List.take_zero, List.nil_append]
    rw [List.drop_of_length_le (by omega), List.append_nil]
  unfold hBS
  rw [hf]
  intro X hX
  refine ⟨hW X hX, ?_⟩
  have hlx : lcells (t.set X (.cells vs)) sz (.view X 0 sz 1 true) = some vs := by simp [lcells, set_at, hv, List.take_of_length_le]
  rcases h with ⟨rfl, rfl, rfl⟩ | ⟨q, f, r, k, h1, rfl, h3, h4, h5⟩
  · refine (Acc.nil b (t.set X (.cells vs)) sz).app (le_set_new _ hb hX) (xs := vs) (k := 1) hlx rfl (by omega) hroom ?_
    intro A' t' g1 g2 g3
    exact hK A' t' g1.toX g2 fun p ob hp hp2 => g3 p ob hp (by rw [set_ne _ _ (ne_new hp2 hX)]; exact hp2)
  · have nX : q ≠ X := ne_new h3 hX
    have h3' : (t.set X (.cells vs)) q = some (.cells (cs ++ r)) := by rw [set_ne _ _ nX]; exact h3
    have hle := le_set_new (.cells vs) hb hX
    have hfree : ∀ p ob, t p = some ob → (t.set X (.cells vs)) p = some ob := fun p ob hp => by rw [set_ne _ _ (ne_new hp hX)]; exact hp
    generalize t.set X (.cells vs) = u at *
    have hcut : ((cs ++ r).drop 0).take (n * sz) = cs := by rw [List.drop_zero, ← h4]; exact List.take_left
    unfold hAppend
    rw [hlx]
    have hll : Go.Proofs.YtkcgokkgefgcjaaGreatDoor.H.llen (.view X 0 sz 1 true) = 1 := rfl
    simp only [h3', hll]
    refine ⟨trivial, by rw [List.length_append]; omega, ?_⟩
    cases f with
    | true =>
      simp only [if_true]
      rw [if_neg (show ¬ (1 = 0) by omega)]
      refine ⟨hroom, fun id hid => ?_⟩
      rw [hcut]
      refine hK _ _ (.inr ⟨id, _, [], 0, none_of_le hle hid, rfl, by rw [set_at, List.append_nil], by rw [List.length_append, h4, hv, Nat.add_mul, Nat.one_mul], by simp⟩) (le_set_new _ hle hid) fun p ob hp hp2 => ?_
      have hp3 := hfree p ob hp2
      have := ne_new hp3 hid
      exact ⟨by rw [set_ne _ _ this]; exact hp3, by rintro ⟨⟩; exact this rfl⟩
    | false =>
      simp only [Bool.false_eq_true, if_false]
      split
      · rename_i htip
        have hr0 : r = [] := List.eq_nil_of_length_eq_zero (by rw [List.length_append] at htip; omega)
        subst hr0
        refine ⟨hroom, fun id hid => ?_⟩
        rw [List.append_nil, List.drop_zero]
        refine hK _ _ (.inr ⟨id, _, [], 0, none_of_le hle hid, rfl, by rw [set_at, List.append_nil], by rw [List.length_append, h4, hv, Nat.add_mul, Nat.one_mul], by simp⟩) ?_ ?_
        · intro p ob hp
          have hpq : p ≠ q := by rintro rfl; rw [h1] at hp; cases hp
          have hp1 := hle p ob hp
          rw [set_ne _ _ (ne_new hp1 hid), del_ne _ hpq]
          exact hp1
        · intro p ob hp hp2
          have hpq : p ≠ q := by rintro rfl; exact hp rfl
          have hp3 := hfree p ob hp2
          have := ne_new hp3 hid
          exact ⟨by rw [set_ne _ _ this, del_ne _ hpq]; exact hp3, by rintro ⟨⟩; exact this rfl⟩
      · rename_i htip
        have hk0 : k ≠ 0 := by
          rintro rfl
          rw [List.length_append] at htip
          simp at h5
          rw [h5] at htip
          simp at htip
          omega
        obtain ⟨k', rfl⟩ : ∃ k', k = k' + 1 := ⟨k - 1, by omega⟩
        rw [Nat.add_mul, Nat.one_mul] at h5
        have hn1 : (n + 1) * sz = n * sz + sz := by rw [Nat.add_mul, Nat.one_mul]
        refine ⟨hsz, by rw [List.length_append, hn1]; omega, ?_⟩
        have e : putCells (cs ++ r) (0 + n * sz) vs = (cs ++ vs) ++ r.drop sz := by
          unfold putCells
          rw [Nat.zero_add, ← h4, List.take_left, hv]
          congr 1
          rw [List.drop_append, List.drop_of_length_le (by omega), List.nil_append]
          congr 1
          omega
        rw [e]
        refine hK _ _ (.inr ⟨q, false, r.drop sz, k', h1, rfl, set_at _ _ _, by rw [List.length_append, h4, hv, Nat.add_mul, Nat.one_mul], by rw [List.length_drop]; omega⟩) (le_set_free _ hle h1) fun p ob hp hp2 => ?_
        have hpq : p ≠ q := by rintro rfl; exact hp rfl
        exact ⟨by rw [set_ne _ _ hpq]; exact hfree p ob hp2, hp⟩
theorem AccX.app1 {b t : HS} {sz by_ : Nat} {A : HV} {n : Nat} {cs zs : List HV} {K : HV → HS → Prop} (h : AccX b t sz A n cs) (hb : HS.le b t) (hsz : 0 < sz) {x : HV} {vs : List HV} (hx : hcells x = some vs) (hv : vs.length = sz) (hz : zs.length = sz)
    (hroom : room (n + 1) by_) (hK : ∀ A' t', AccX b t' sz A' (n + 1) (cs ++ vs) → HS.le b t' → (∀ q ob, accId A ≠ some q → t q = some ob → t' q = some ob ∧ accId A' ≠ some q) → K A' t') : hBS t sz 1 zs [(0, x)] (fun v s => hAppend s sz by_ A v K) := by
  have := h.app1W (W := fun _ => True) (K := K) (zs := zs) hb hsz hx hv hz hroom (fun _ _ => trivial) hK
  unfold hBS at this ⊢
  split
  · rename_i cs' h'
    rw [h'] at this
    exact fun id hid => (this id hid).2
  · rename_i h'
    rw [h'] at this
    exact this
/-- What lies still, and what may be written, is a list from here on. -/
theorem AccX.up {b t : HS} {sz : Nat} {A : HV} {n : Nat} {cs : List HV} (h : AccX b t sz A n cs) (hb : HS.le b t) : UpL [A] t [.list sz n cs false] b := by
  rcases h with ⟨rfl, rfl, rfl⟩ | ⟨q, f, r, k, h1, rfl, h3, h4, h5⟩
  · exact (UpL.nilAt (ys := []) (zs := []) sz).trans (UpL.le _ hb)
  · have hu := UpL.frzD (xs := [.view q 0 sz n f]) h3 hb h1
    have e : (cs ++ r).take (n * sz) = cs := by rw [← h4]; exact List.take_left
    have e2 : 0 + n * sz ≤ (cs ++ r).length := by rw [List.length_append]; omega
    simp only [List.map_cons, List.map_nil, frz2, frz1, frz0, phi, true_and, e2, if_true, Option.getD_some, List.drop_zero, e] at hu
    exact hu
/-- An element of it. -/
theorem AccX.at_ {α : Type} {enc : α → List HV} {sz : Nat} (he : ∀ x, (enc x).length = sz) (z : α) {b t : HS} {A : HV} {l : List α} (h : AccX b t sz A l.length (rows enc l)) {i : Nat} (k : IntKind) (hi : i < l.length) :
    ∃ q, accId A = some q ∧ vIdx sz A (.lit (.int k i)) = some (.ptr q (i * sz)) ∧ vLoad t (.ptr q (i * sz)) sz true = some (.agg (enc (l.getD i z))) ∧ ∀ j, j < sz → ∀ m, vLoad t (.ptr q (i * sz + j)) m false = (enc (l.getD i z))[j]? := by
  rcases h with ⟨rfl, h0, h1⟩ | ⟨q, f, r, k', h1, rfl, h3, h4, h5⟩
  · omega
  · exact ⟨q, rfl, by rw [idx_view _ hi, Nat.zero_add], load_rows he z h3 hi, fun j hj m => load_rows1 he z h3 hi hj⟩
/-- A literal of none, that grows. -/
def Acc0 (b t : HS) (sz : Nat) (A : HV) (n : Nat) (cs : List HV) : Prop := Acc b t sz A n cs ∨ (n = 0 ∧ cs = [] ∧ ∃ q, b q = none ∧ A = .view q 0 sz 0 true ∧ t q = some (.cells []))
theorem hBS0 {t : HS} {sz : Nat} {K : HV → HS → Prop} (h : ∀ id, t id = none → K (.view id 0 sz 0 true) (t.set id (.cells []))) : hBS t sz 0 [] [] K := h
theorem app_empty {b t : HS} {sz by_ q : Nat} {K : HV → HS → Prop} (hb : HS.le b t) (hq : b q = none) (ht : t q = some (.cells [])) {x : HV} {xs : List HV} {k : Nat} (hx : lcells t sz x = some xs) (hk : llen x = k) (hl : xs.length = k * sz)
    (hroom : room k by_) (hK : ∀ A' t', Acc0 b t' sz A' k xs → HS.le b t' → K A' t') : hAppend t sz by_ (.view q 0 sz 0 true) x K := by
  unfold hAppend
  rw [hx]
  simp only [hk, ht]
  refine ⟨by trivial, by simp, ?_⟩
  simp only [if_true]
  split
  · rename_i h0
    subst h0
    have : xs = [] := List.eq_nil_of_length_eq_zero (by rw [hl]; omega)
    subst this
    exact hK _ _ (.inr ⟨rfl, rfl, q, hq, rfl, ht⟩) hb
  · refine ⟨by rw [Nat.zero_add]; exact hroom, fun id hid => ?_⟩
    have e : (([] : List HV).drop 0).take (0 * sz) ++ xs = xs := by simp
    rw [e]
    exact hK _ _ (.inl (.inr ⟨id, _, none_of_le hb hid, by rw [Nat.zero_add], set_at _ _ _, hl, by omega⟩)) (le_set_new _ hb hid)
theorem acc0_upL {b t : HS} {sz : Nat} {A : HV} {n : Nat} {cs : List HV} (h : Acc0 b t sz A n cs) (hb : HS.le b t) : UpL [A] t [.list sz n cs false] b := by
  rcases h with h | ⟨rfl, rfl, q, h3, rfl, h4⟩
  · exact h.upAtL hb [] [] (fun _ _ => rfl) (fun _ _ => rfl)
  · have := UpL.freeze (ys := []) (zs := []) (id := q) (off := 0) (sz := sz) (n := 0) (full := true) (full' := false) (fun h => by cases h) h4 (by simp)
    simp only [Nat.zero_mul, List.take_zero, List.nil_append] at this
    exact this.trans (UpL.le _ (le_del_free hb h3))
end Go.Proofs.YtkcgokkgefgcjaaGreatDoor.H
end
section
namespace Go.Proofs.YtkcgokkgefgcjaaGreatDoor.H
open Go.RowKit Go.MapKept
set_option linter.unusedVariables false
set_option linter.unusedSimpArgs false
theorem UpL.frzP {s s' : HS} {id : Nat} {cs : List HV} (hs : s id = some (.cells cs)) (hle : HS.le s' s) (hid : s' id = none) (ys zs : List HV) : UpL (ys ++ .ptr id 0 :: zs) s (ys ++ .elt cs 0 :: zs) s' := by
  intro m w cvs hR hr
  obtain ⟨m', h1, h2, h3⟩ := freeze_m hR hs (s' := s') fun k o hk => ⟨(by rintro rfl; rw [hid] at hk; cases hk), o, hle k o hk, Or.inl rfl⟩
  refine ⟨m', h1, h2, by simpa using hr.1, fun j x hj => ?_⟩
  by_cases hlt : j < ys.length
  · rw [List.getElem?_append_left hlt] at hj
    exact (hr.2 j x (by rw [List.getElem?_append_left hlt]; exact hj)).mono h1
  · rw [List.getElem?_append_right (by omega)] at hj
    have hr2 := hr.2 j
    rw [List.getElem?_append_right (by omega)] at hr2
    obtain ⟨k, hk⟩ : ∃ k, k = j - ys.length := ⟨_, rfl⟩
    rw [← hk] at hj hr2
    cases k with
    | succ k => exact (hr2 x hj).mono h1
    | zero =>
      simp at hj
      subst hj
      have hp := hr2 (.ptr id 0) rfl
      generalize cvs.getD j undef = v at hp ⊢
      cases hp with
      | ptr _ _ l hl =>
        obtain ⟨ho, c, t, fr, o1, o2, o3, o4, o5⟩ := hR.objs id _ l hs hl
        by_cases hn : cs = []
        · subst hn
          exact .elt [] 0 l.b l.base (fun _ => undef) ho (fun j hj => by simp at hj) (fun j x hj => by simp at hj)
        · have hpos : 0 < cs.length := List.length_pos_iff.2 hn
          have hv : Rep m (.view id 0 1 cs.length false) (.slice (some ⟨l.b, l.base + 0, none⟩) cs.length (l.lim - l.base)) :=
            .view id 0 1 cs.length false (l.lim - l.base) l hl (by omega) (fun h => by cases h) (by omega) (fun _ => by omega)
          have hL := h3 0 1 cs.length false _ (by omega) hv
          rw [List.drop_zero, Nat.mul_one, List.take_length] at hL
          generalize hq : cs.length = n at hL hpos
          cases hL with
          | list0 => omega
          | list _ _ _ _ _ _ _ f _ _ _ _ g1 g2 => exact .elt cs 0 l.b (l.base + 0) f ho g1 g2
end Go.Proofs.YtkcgokkgefgcjaaGreatDoor.H
end
section
namespace Go.Proofs.YtkcgokkgefgcjaaGreatDoor.H
open Go.RowKit Go.MapKept
set_option linter.unusedVariables false
set_option linter.unusedSimpArgs false
theorem Acc0.base {b b' t : HS} {sz : Nat} {A : HV} {n : Nat} {cs : List HV} (h : Acc0 b t sz A n cs) (hle : HS.le b' b) : Acc0 b' t sz A n cs := by
  rcases h with h | ⟨h1, h2, q, h3, h4, h5⟩
  · exact .inl (h.base hle)
  · exact .inr ⟨h1, h2, q, none_of_le hle h3, h4, h5⟩
theorem Acc0.grow {b t : HS} {sz : Nat} {A : HV} {n : Nat} {cs : List HV} (h : Acc0 b t sz A n cs) {k : Nat} (hk : t k = none) (ob : HObj) : Acc0 (b.set k ob) (t.set k ob) sz A n cs := by
  rcases h with (h | ⟨q, f, h1, h2, h3, h4, h5⟩) | ⟨h1, h2, q, h3, h4, h5⟩
  · exact .inl (.inl h)
  · have := ne_new h3 hk
    exact .inl (.inr ⟨q, f, by rw [set_ne _ _ this]; exact h1, h2, by rw [set_ne _ _ this]; exact h3, h4, h5⟩)
  · have := ne_new h5 hk
    exact .inr ⟨h1, h2, q, by rw [set_ne _ _ this]; exact h3, h4, by rw [set_ne _ _ this]; exact h5⟩
theorem le_setBoth {b t : HS} (h : HS.le b t) (k : Nat) (ob : HObj) : HS.le (b.set k ob) (t.set k ob) := by
  intro j o hj
  by_cases e : j = k
  · subst e; rw [set_at] at hj ⊢; exact hj
  · rw [set_ne _ _ e] at hj ⊢
    exact h j o hj
theorem acc0_appS {b t : HS} {sz by_ : Nat} {A : HV} {n : Nat} {cs : List HV} {K : HV → HS → Prop} (h : Acc0 b t sz A n cs) (hb : HS.le b t) {x : HV} {xs : List HV} {k : Nat} (hx : lcells t sz x = some xs) (hk : llen x = k) (hl : xs.length = k * sz)
    (hroom : room (n + k) by_) (hK : ∀ A' t', Acc0 b t' sz A' (n + k) (cs ++ xs) → HS.le b t' → K A' t') : hAppend t sz by_ A x K := by
  rcases h with h | ⟨rfl, rfl, q, h3, rfl, h4⟩
  · exact h.app hb hx hk hl hroom fun A' t' h1 h2 _ => hK A' t' (.inl h1) h2
  · rw [Nat.zero_add] at hroom hK
    rw [List.nil_append] at hK
    exact app_empty hb h3 h4 hx hk hl hroom hK
theorem hBS_lit {s : HS} {sz : Nat} {zs vs : List HV} {x : HV} {K : HV → HS → Prop} (hx : hcells x = some vs) (hv : vs.length = sz) (hz : zs.length = sz) (h : ∀ id, s id = none → K (.view id 0 sz 1 true) (s.set id (.cells vs))) : hBS s sz 1 zs [(0, x)] K := by
  have hf : hfill (fun i => some (i * sz, sz)) zs [(0, x)] = some vs := by
    simp only [hfill, hx, Nat.zero_mul, Nat.zero_add, hv, hz, Nat.le_refl, and_self, if_true, List.take_zero, List.nil_append]
    rw [List.drop_of_length_le (by omega), List.append_nil]
  unfold hBS
  rw [hf]
  exact h
theorem lit_cells {s : HS} {id sz : Nat} {vs : List HV} (h : s id = some (.cells vs)) (hv : vs.length = sz) : lcells s sz (.view id 0 sz 1 true) = some vs := by
  simp [lcells, h, hv, List.take_of_length_le]
theorem lit_app {b t : HS} {sz by_ : Nat} {A : HV} {n : Nat} {cs zs vs : List HV} {x : HV} {K : HV → HS → Prop} (h : Acc0 b t sz A n cs) (hb : HS.le b t) (hx : hcells x = some vs) (hv : vs.length = sz) (hz : zs.length = sz) (hroom : room (n + 1) by_)
    (hK : ∀ A' t', Acc0 b t' sz A' (n + 1) (cs ++ vs) → HS.le b t' → K A' t') : hBS t sz 1 zs [(0, x)] (fun v s => hAppend s sz by_ A v K) := by
  refine hBS_lit hx hv hz fun id hid => ?_
  have hle : HS.le b (b.set id (.cells vs)) := le_set_new _ (le_refl' b) (none_of_le hb hid)
  refine acc0_appS (k := 1) (h.grow hid (.cells vs)) (le_setBoth hb _ _) (lit_cells (set_at _ _ _) hv) rfl (by omega) hroom fun A' t' h1 h2 => ?_
  exact hK A' t' (h1.base hle) (HS.le.trans hle h2)
/-- append(append(append([]T{}, p...), x), r...): the three orders. -/
theorem ins3 {t : HS} {sz by_ : Nat} {b2 : Bool} {zs vs cs1 cs3 ecs : List HV} {eo en n1 n3 : Nat} {p r x : HV} {K : HV → HS → Prop} (hp : ∀ s, lcells s sz p = some cs1) (hp1 : llen p = n1) (hp2 : cs1.length = n1 * sz) (hr : ∀ s, lcells s sz r = some cs3) (hr1 : llen r = n3) (hr2 : cs3.length = n3 * sz)
    (hx : hcells x = some vs) (hv : vs.length = sz) (hz : zs.length = sz) (hroom : room (n1 + 1 + n3) by_) (hroom1 : room n1 by_) (hroom2 : room (n1 + 1) by_)
    (hK : ∀ A u, Acc0 t u sz A (n1 + 1 + n3) (cs1 ++ vs ++ cs3) → HS.le t u → K A u) :
    ((hBS t sz 0 [] [] (fun x27 s28 => (vLoad s28 (.elt ecs eo) en b2 = vLoad t (.elt ecs eo) en b2 ∧ ((hAppend s28 sz by_ x27 p (fun x29 s30 => (vLoad s30 (.elt ecs eo) en b2 = vLoad s28 (.elt ecs eo) en b2 ∧ hBS s30 sz 1 zs [(0, x)] (fun x31 s32 => hAppend s32 sz by_ x29 x31 (fun x33 s34 => hAppend s34 sz by_ x33 r K))))) ∧ (hBS s28 sz 1 zs [(0, x)] (fun x38 s39 => hAppend s39 sz by_ x27 p (fun x40 s41 => hAppend s41 sz by_ x40 x38 (fun x42 s43 => hAppend s43 sz by_ x42 r K)))))))) ∧ (hBS t sz 1 zs [(0, x)] (fun x47 s48 => hBS s48 sz 0 [] [] (fun x49 s50 => hAppend s50 sz by_ x49 p (fun x51 s52 => hAppend s52 sz by_ x51 x47 (fun x53 s54 => hAppend s54 sz by_ x53 r K)))))) := by
  have last : ∀ {b u : HS} {A : HV}, HS.le t b → Acc0 b u sz A (n1 + 1) (cs1 ++ vs) → HS.le b u → hAppend u sz by_ A r K := fun hb h1 h2 =>
    acc0_appS h1 h2 (hr _) hr1 hr2 hroom fun A' u' g1 g2 => hK A' u' (g1.base hb) (HS.le.trans hb g2)
  refine ⟨hBS0 fun Y hY => ⟨rfl, ?_, ?_⟩, hBS_lit hx hv hz fun id hid => hBS0 fun Y hY => ?_⟩
  · refine app_empty (b := t) (le_set_new _ (le_refl' t) hY) hY (set_at _ _ _) (hp _) hp1 hp2 hroom1 fun A u g1 g2 => ⟨rfl, ?_⟩
    exact lit_app g1 g2 hx hv hz hroom2 fun A' u' k1 k2 => last (le_refl' t) k1 k2
  · refine hBS_lit hx hv hz fun id hid => ?_
    have htid : t id = none := by
      have : id ≠ Y := by rintro rfl; rw [set_at] at hid; cases hid
      rw [set_ne _ _ this] at hid; exact hid
    have hYi : Y ≠ id := by rintro rfl; rw [set_at] at hid; cases hid
    refine app_empty (b := t.set id (.cells vs)) (le_setBoth (le_set_new _ (le_refl' t) hY) _ _) (by rw [set_ne _ _ hYi]; exact hY) (by rw [set_ne _ _ hYi, set_at]) (hp _) hp1 hp2 hroom1 fun A u g1 g2 => ?_
    refine acc0_appS (k := 1) g1 g2 (lit_cells (g2 _ _ (set_at _ _ _)) hv) rfl (by omega) hroom2 fun A' u' k1 k2 => ?_
    exact last (le_set_new _ (le_refl' t) htid) k1 k2
  · refine app_empty (b := t.set id (.cells vs)) (le_set_new _ (le_refl' _) hY) hY (set_at _ _ _) (hp _) hp1 hp2 hroom1 fun A u g1 g2 => ?_
    refine acc0_appS (k := 1) g1 g2 (lit_cells (g2 _ _ (set_at _ _ _)) hv) rfl (by omega) hroom2 fun A' u' k1 k2 => ?_
    exact last (le_set_new _ (le_refl' t) hid) k1 k2
end Go.Proofs.YtkcgokkgefgcjaaGreatDoor.H
end
section
namespace Go.Proofs.YtkcgokkgefgcjaaGreatDoor.H
set_option linter.unusedVariables false
set_option linter.unusedSimpArgs false
section
variable {α : Type} {z : α} {lt : α → α → Bool}
/-- A total order, but for equals. -/
structure Ordr (lt : α → α → Bool) : Prop where
  asymm : ∀ x y, lt x y = true → lt y x = false
  trans : ∀ x y w, lt y x = false → lt w y = false → lt w x = false
theorem Ordr.irrefl (h : Ordr lt) (x : α) : lt x x = false := by
  cases e : lt x x with
  | false => rfl
  | true => have := h.asymm x x e; rw [e] at this; cases this
def SO (z : α) (lt : α → α → Bool) (M : List α) (a b : Nat) : Prop := ∀ i j, a ≤ i → i < j → j < b → lt (M.getD j z) (M.getD i z) = false
def swap (z : α) (M : List α) (i j : Nat) : List α := (M.set i (M.getD j z)).set j (M.getD i z)
theorem swap_perm {M : List α} {i j : Nat} (hi : i < M.length) (hj : j < M.length) : (swap z M i j).Perm M := by
  unfold swap
  rw [getD_get z M hi, getD_get z M hj]
  exact List.set_set_perm hi hj
theorem swap_get {M : List α} {i j : Nat} (hi : i < M.length) (hj : j < M.length) (k : Nat) : (swap z M i j).getD k z = if k = j then M.getD i z else if k = i then M.getD j z else M.getD k z := by
  unfold swap
  simp only [List.getD, List.getElem?_set]
  by_cases h1 : k = j
  · subst h1
    simp [hj]
  · by_cases h2 : k = i
    · subst h2
      have : ¬ j = k := fun e => h1 e.symm
      simp [this, hi, h1]
    · have e1 : ¬ j = k := fun e => h1 e.symm
      have e2 : ¬ i = k := fun e => h2 e.symm
      simp [e1, e2, h1, h2]
/-- What one element is put into, from the right. -/
def Ins (z : α) (lt : α → α → Bool) (M : List α) (a i j : Nat) : Prop :=
  (∀ p q, a ≤ p → p < q → q ≤ i → p ≠ j → q ≠ j → lt (M.getD q z) (M.getD p z) = false) ∧ ∀ q, j < q → q ≤ i → lt (M.getD q z) (M.getD j z) = false
theorem Ins.start {M : List α} {a i : Nat} (h : SO z lt M a i) : Ins z lt M a i i :=
  ⟨fun p q h1 h2 h3 h4 h5 => h p q h1 h2 (by omega), fun q h1 h2 => by omega⟩
theorem Ins.step (ho : Ordr lt) {M : List α} {a i j : Nat} (h : Ins z lt M a i j) (hi : i < M.length) (hj : j ≤ i) (ha : a < j) (hl : lt (M.getD j z) (M.getD (j - 1) z) = true) : Ins z lt (swap z M j (j - 1)) a i (j - 1) := by
  obtain ⟨h1, h2⟩ := h
  have hg := swap_get (z := z) (M := M) (i := j) (j := j - 1) (by omega) (by omega)
  constructor
  · intro p q g1 g2 g3 g4 g5
    rw [hg, hg, if_neg g5, if_neg g4]
    by_cases hp : p = j
    · subst hp
      rw [if_pos rfl, if_neg (by omega)]
      exact h1 (p - 1) q (by omega) (by omega) g3 (by omega) (by omega)
    · rw [if_neg hp]
      by_cases hq : q = j
      · subst hq
        rw [if_pos rfl]
        exact h1 p (q - 1) g1 (by omega) (by omega) hp (by omega)
      · rw [if_neg hq]
        exact h1 p q g1 g2 g3 hp hq
  · intro q g1 g2
    rw [hg, hg, if_neg (by omega), if_pos rfl]
    by_cases hq : q = j
    · subst hq
      rw [if_pos rfl]
      exact ho.asymm _ _ hl
    · rw [if_neg hq]
      exact h2 q (by omega) g2
theorem Ins.stop (ho : Ordr lt) {M : List α} {a i j : Nat} (h : Ins z lt M a i j) (ha : a ≤ j) (hj : j ≤ i) (hs : j = a ∨ lt (M.getD j z) (M.getD (j - 1) z) = false) : SO z lt M a (i + 1) := by
  obtain ⟨h1, h2⟩ := h
  intro p q g1 g2 g3
  by_cases hp : p = j
  · subst hp; exact h2 q g2 (by omega)
  · by_cases hq : q = j
    · subst hq
      have hs : lt (M.getD q z) (M.getD (q - 1) z) = false := hs.resolve_left (by omega)
      by_cases hpp : p = q - 1
      · subst hpp; exact hs
      · exact ho.trans _ _ _ (h1 p (q - 1) g1 (by omega) (by omega) hp (by omega)) hs
    · exact h1 p q g1 g2 (by omega) hp hq
/-- Changed within two bounds alone, and nothing lost. -/
structure Kept (z : α) (M M' : List α) (a b : Nat) : Prop where
  perm : M'.Perm M
  out : ∀ k, k < a ∨ b ≤ k → M'.getD k z = M.getD k z
  inn : ∀ k, a ≤ k → k < b → ∃ q, a ≤ q ∧ q < b ∧ M'.getD k z = M.getD q z
theorem Kept.refl (M : List α) (a b : Nat) : Kept z M M a b := ⟨List.Perm.refl _, fun _ _ => rfl, fun k h1 h2 => ⟨k, h1, h2, rfl⟩⟩
theorem Kept.trans {M M' M'' : List α} {a b : Nat} (h : Kept z M M' a b) (k : Kept z M' M'' a b) : Kept z M M'' a b :=
  ⟨k.perm.trans h.perm, fun i hi => (k.out i hi).trans (h.out i hi), fun i h1 h2 => by
    obtain ⟨q, q1, q2, e1⟩ := k.inn i h1 h2
    obtain ⟨r, r1, r2, e2⟩ := h.inn q q1 q2
    exact ⟨r, r1, r2, e1.trans e2⟩⟩
theorem Kept.wide {M M' : List α} {a b c d : Nat} (h : Kept z M M' a b) (h1 : c ≤ a) (h2 : b ≤ d) : Kept z M M' c d :=
  ⟨h.perm, fun i hi => h.out i (by omega), fun i h3 h4 => by
    by_cases hi : a ≤ i ∧ i < b
    · obtain ⟨q, q1, q2, e⟩ := h.inn i hi.1 hi.2
      exact ⟨q, by omega, by omega, e⟩
    · exact ⟨i, h3, h4, h.out i (by omega)⟩⟩
theorem Kept.len {M M' : List α} {a b : Nat} (h : Kept z M M' a b) : M'.length = M.length := h.perm.length_eq
theorem Kept.swap {M : List α} {a b i j : Nat} (hi : i < M.length) (hj : j < M.length) (h1 : a ≤ i) (h2 : i < b) (h3 : a ≤ j) (h4 : j < b) : Kept z M (swap z M i j) a b :=
  ⟨swap_perm hi hj, fun k hk => by rw [swap_get hi hj, if_neg (by omega), if_neg (by omega)], fun k h5 h6 => by
    rw [swap_get hi hj]
    split
    · exact ⟨i, h1, h2, rfl⟩
    · split
      · exact ⟨j, h3, h4, rfl⟩
      · exact ⟨k, h5, h6, rfl⟩⟩
theorem SO.nil (M : List α) (a : Nat) : SO z lt M a a := fun i j h1 h2 h3 => by omega
theorem SO.one (M : List α) (a : Nat) : SO z lt M a (a + 1) := fun i j h1 h2 h3 => by omega
theorem SO.of_out {M M' : List α} {a b c d : Nat} (h : SO z lt M a b) (k : Kept z M M' c d) (hd : b ≤ c ∨ d ≤ a) : SO z lt M' a b := fun i j h1 h2 h3 => by
  rw [k.out i (by omega), k.out j (by omega)]
  exact h i j h1 h2 h3
theorem SO.pairwise {M : List α} (h : SO z lt M 0 M.length) : M.Pairwise fun x y => lt y x = false := by
  rw [List.pairwise_iff_getElem]
  intro i j hi hj hij
  have := h i j (Nat.zero_le _) hij hj
  rwa [getD_get z M hi, getD_get z M hj] at this
end
end Go.Proofs.YtkcgokkgefgcjaaGreatDoor.H
end
section
namespace Go.Proofs.YtkcgokkgefgcjaaGreatDoor.H
set_option linter.unusedVariables false
set_option linter.unusedSimpArgs false
section
variable {α : Type} {z : α} {lt : α → α → Bool}
def SOf (lt : α → α → Bool) (f : Nat → α) (a b : Nat) : Prop := ∀ i j, a ≤ i → i < j → j < b → lt (f j) (f i) = false
theorem so_iff {M : List α} {a b : Nat} : SO z lt M a b ↔ SOf lt (fun k => M.getD k z) a b := Iff.rfl
/-- Two blocks changed places. -/
def swF (f : Nat → α) (p q n x : Nat) : α := if p ≤ x ∧ x < p + n then f (x - p + q) else if q ≤ x ∧ x < q + n then f (x - q + p) else f x
/-- What stands before and behind m changed places. -/
def rotF (f : Nat → α) (a m b x : Nat) : α := if a ≤ x ∧ x < a + (b - m) then f (x + (m - a)) else if a + (b - m) ≤ x ∧ x < b then f (x - (b - m)) else f x
def shR (f : Nat → α) (a k x : Nat) : α := if a ≤ x ∧ x < k then f (x + 1) else if x = k then f a else f x
def shL (f : Nat → α) (m k x : Nat) : α := if k < x ∧ x ≤ m then f (x - 1) else if x = k then f m else f x
theorem swF_zero (f : Nat → α) (p q x : Nat) : swF f p q 0 x = f x := by
  unfold swF
  rw [if_neg (by omega), if_neg (by omega)]
theorem swF_step {M' : List α} {f : Nat → α} {p q k : Nat} (h : ∀ x, M'.getD x z = swF f p q k x) (hpq : p + k < q) (hq : q + k < M'.length) (x : Nat) : (swap z M' (p + k) (q + k)).getD x z = swF f p q (k + 1) x := by
  rw [swap_get (by omega) hq, h, h, h]
  unfold swF
  repeat' split
  all_goals first | rfl | (exfalso; omega) | (congr 1; omega)
theorem shR_step {M' : List α} {f : Nat → α} {a k : Nat} (h : ∀ x, M'.getD x z = shR f a k x) (ha : a ≤ k) (hk : k + 1 < M'.length) (x : Nat) : (swap z M' k (k + 1)).getD x z = shR f a (k + 1) x := by
  rw [swap_get (by omega) hk, h, h, h]
  unfold shR
  repeat' split
  all_goals first | rfl | (exfalso; omega) | (congr 1; omega)
theorem shR_zero (f : Nat → α) (a x : Nat) : shR f a a x = f x := by
  unfold shR
  rw [if_neg (by omega)]
  split
  · rename_i e; rw [e]
  · rfl
theorem shL_step {M' : List α} {f : Nat → α} {m k : Nat} (h : ∀ x, M'.getD x z = shL f m k x) (hm : k ≤ m) (h0 : 0 < k) (hk : k < M'.length) (x : Nat) : (swap z M' k (k - 1)).getD x z = shL f m (k - 1) x := by
  rw [swap_get (by omega) (by omega), h, h, h]
  unfold shL
  repeat' split
  all_goals first | rfl | (exfalso; omega) | (congr 1; omega)
theorem shL_zero (f : Nat → α) (m x : Nat) : shL f m m x = f x := by
  unfold shL
  rw [if_neg (by omega)]
  split
  · rename_i e; rw [e]
  · rfl
theorem rot_step1 (f : Nat → α) {m i j : Nat} (hi : i ≤ m) (hj : j < i) (x : Nat) : rotF f (m - i) m (m + j) x = rotF (swF f (m - i) m j) (m - (i - j)) m (m + j) x := by
  unfold rotF swF
  repeat' split
  all_goals first | rfl | (exfalso; omega) | (congr 1; omega)
theorem rot_step2 (f : Nat → α) {m i j : Nat} (hi : i ≤ m) (hj : i < j) (x : Nat) : rotF f (m - i) m (m + j) x = rotF (swF f (m - i) (m + j - i) i) (m - i) m (m + (j - i)) x := by
  unfold rotF swF
  repeat' split
  all_goals first | rfl | (exfalso; omega) | (congr 1; omega)
theorem rot_end (f : Nat → α) {m i : Nat} (hi : i ≤ m) (x : Nat) : rotF f (m - i) m (m + i) x = swF f (m - i) m i x := by
  unfold rotF swF
  repeat' split
  all_goals first | rfl | (exfalso; omega) | (congr 1; omega)
theorem rot_idL (f : Nat → α) (m b x : Nat) : rotF f m m b x = f x := by
  unfold rotF
  repeat' split
  all_goals first | rfl | (exfalso; omega) | (congr 1; omega)
theorem rot_idR (f : Nat → α) (a m x : Nat) : rotF f a m m x = f x := by
  unfold rotF
  repeat' split
  all_goals first | rfl | (exfalso; omega) | (congr 1; omega)
theorem rot_congr {f g : Nat → α} (h : ∀ x, f x = g x) (a m b x : Nat) : rotF f a m b x = rotF g a m b x := by rw [show f = g from funext h]
/-- One element put in from the left. -/
theorem shR_so (ho : Ordr lt) {f : Nat → α} {a b i : Nat} (hs : SOf lt f (a + 1) b) (hi : a + 1 ≤ i) (hi' : i ≤ b) (h1 : ∀ h, a + 1 ≤ h → h < i → lt (f h) (f a) = true) (h2 : ∀ h, i ≤ h → h < b → lt (f h) (f a) = false) : SOf lt (shR f a (i - 1)) a b := by
  intro p q g1 g2 g3
  unfold shR
  by_cases hp : p < i - 1
  · rw [if_pos (⟨g1, hp⟩ : a ≤ p ∧ p < i - 1)]
    by_cases hq : q < i - 1
    · rw [if_pos (⟨by omega, hq⟩ : a ≤ q ∧ q < i - 1)]
      exact hs _ _ (by omega) (by omega) (by omega)
    · rw [if_neg (by omega)]
      by_cases hq2 : q = i - 1
      · rw [if_pos hq2]
        exact ho.asymm _ _ (h1 _ (by omega) (by omega))
      · rw [if_neg hq2]
        exact hs _ _ (by omega) (by omega) g3
  · rw [if_neg (by omega : ¬ (a ≤ p ∧ p < i - 1)), if_neg (by omega : ¬ (a ≤ q ∧ q < i - 1)), if_neg (by omega : ¬ q = i - 1)]
    split
    · exact h2 _ (by omega) g3
    · exact hs _ _ (by omega) g2 g3
theorem shL_so (ho : Ordr lt) {f : Nat → α} {a m i : Nat} (hs : SOf lt f a m) (hi : a ≤ i) (hi' : i ≤ m) (h1 : ∀ h, a ≤ h → h < i → lt (f m) (f h) = false) (h2 : ∀ h, i ≤ h → h < m → lt (f m) (f h) = true) : SOf lt (shL f m i) a (m + 1) := by
  intro p q g1 g2 g3
  unfold shL
  by_cases hp : p < i
  · rw [if_neg (by omega : ¬ (i < p ∧ p ≤ m)), if_neg (by omega : ¬ p = i)]
    by_cases hq : i < q
    · rw [if_pos (by omega : i < q ∧ q ≤ m)]
      exact hs _ _ g1 (by omega) (by omega)
    · rw [if_neg (by omega : ¬ (i < q ∧ q ≤ m))]
      split
      · exact h1 _ g1 hp
      · exact hs _ _ g1 g2 (by omega)
  · rw [if_pos (by omega : i < q ∧ q ≤ m)]
    by_cases hp2 : p = i
    · rw [if_neg (by omega : ¬ (i < p ∧ p ≤ m)), if_pos hp2]
      exact ho.asymm _ _ (h2 _ (by omega) (by omega))
    · rw [if_pos (by omega : i < p ∧ p ≤ m)]
      exact hs _ _ (by omega) (by omega) (by omega)
def Cross (lt : α → α → Bool) (f : Nat → α) (a m b : Nat) : Prop := ∀ x y, a ≤ x → x < m → m ≤ y → y < b → lt (f y) (f x) = false
theorem so_join {f : Nat → α} {a m b : Nat} (h1 : SOf lt f a m) (h2 : SOf lt f m b) (h3 : Cross lt f a m b) : SOf lt f a b := by
  intro i j g1 g2 g3
  by_cases hj : j < m
  · exact h1 i j g1 g2 hj
  · by_cases hi : m ≤ i
    · exact h2 i j hi g2 g3
    · exact h3 i j g1 (by omega) (by omega) g3
theorem Cross.left {M M' : List α} {a m b : Nat} (h : Cross lt (fun k => M.getD k z) a m b) (k : Kept z M M' a m) : Cross lt (fun k => M'.getD k z) a m b := by
  intro x y g1 g2 g3 g4
  obtain ⟨q, q1, q2, e⟩ := k.inn x g1 g2
  show lt (M'.getD y z) (M'.getD x z) = false
  rw [k.out y (.inr g3), e]
  exact h q y q1 q2 g3 g4
theorem Cross.right {M M' : List α} {a m b : Nat} (h : Cross lt (fun k => M.getD k z) a m b) (k : Kept z M M' m b) : Cross lt (fun k => M'.getD k z) a m b := by
  intro x y g1 g2 g3 g4
  obtain ⟨q, q1, q2, e⟩ := k.inn y g3 g4
  show lt (M'.getD y z) (M'.getD x z) = false
  rw [k.out x (.inl g2), e]
  exact h x q g1 g2 q1 q2
/-- Where symMerge cuts: what it found of start. -/
structure Cut (lt : α → α → Bool) (f : Nat → α) (a m b mid start : Nat) : Prop where
  lo : a ≤ start
  hm : start ≤ m
  hd : start ≤ mid
  e1 : m + mid - start ≤ b
  l : ∀ c, a ≤ c → m + mid ≤ c + b → c < start → lt (f (m + mid - 1 - c)) (f c) = false
  r : ∀ c, start ≤ c → c < m → c < mid → lt (f (m + mid - 1 - c)) (f c) = true
/-- Smaller or alike, over one between. -/
theorem Ordr.le3 (ho : Ordr lt) {x y w v : α} (h1 : lt y x = false) (h2 : lt w y = false) (h3 : lt v w = false) : lt v x = false := ho.trans _ _ _ (ho.trans _ _ _ h1 h2) h3
theorem SOf.le (ho : Ordr lt) {f : Nat → α} {a b i j : Nat} (h : SOf lt f a b) (h1 : a ≤ i) (h2 : i ≤ j) (h3 : j < b) : lt (f j) (f i) = false := by
  by_cases e : i = j
  · subst e; exact ho.irrefl _
  · exact h i j h1 (by omega) h3
theorem cut_cross (ho : Ordr lt) {f : Nat → α} {a m b mid start : Nat} (h1 : SOf lt f a m) (h2 : SOf lt f m b) (hc : Cut lt f a m b mid start) (ham : a ≤ m) (hmb : m ≤ b) (hmid : a ≤ mid) (hmid' : mid ≤ b) : Cross lt (rotF f start m (m + mid - start)) a mid b := by
  have hlo := hc.lo
  have hhm := hc.hm
  have hhd := hc.hd
  have he1 := hc.e1
  intro x y g1 g2 g3 g4
  have ex : rotF f start m (m + mid - start) x = if x < start then f x else f (x + (m - start)) := by
    unfold rotF
    repeat' split
    all_goals first | rfl | (exfalso; omega) | (congr 1; omega)
  have ey : rotF f start m (m + mid - start) y = if y < m + mid - start then f (y - (mid - start)) else f y := by
    unfold rotF
    repeat' split
    all_goals first | rfl | (exfalso; omega) | (congr 1; omega)
  rw [ex, ey]
  by_cases hx : x < start
  · rw [if_pos hx]
    by_cases hy : y < m + mid - start
    · rw [if_pos hy]
      exact h1.le ho g1 (by omega) (by omega)
    · rw [if_neg hy]
      have hp := hc.l (start - 1) (by omega) (by omega) (by omega)
      rw [show m + mid - 1 - (start - 1) = m + mid - start by omega] at hp
      exact ho.le3 (h1.le ho (j := start - 1) g1 (by omega) (by omega)) hp (h2.le ho (by omega) (by omega) g4)
  · rw [if_neg hx]
    by_cases hy : y < m + mid - start
    · rw [if_pos hy]
      have hp := hc.r start (Nat.le_refl _) (by omega) (by omega)
      exact ho.le3 (h2.le ho (j := m + mid - 1 - start) (by omega) (by omega) (by omega)) (ho.asymm _ _ hp) (h1.le ho (by omega) (by omega) (by omega))
    · rw [if_neg hy]
      exact h2.le ho (by omega) (by omega) g4
theorem rot_so1 {f : Nat → α} {a m b mid start : Nat} (h1 : SOf lt f a m) (hm : start ≤ m) : SOf lt (rotF f start m (m + mid - start)) a start := by
  intro i j g1 g2 g3
  rw [show rotF f start m (m + mid - start) i = f i by unfold rotF; rw [if_neg (by omega), if_neg (by omega)], show rotF f start m (m + mid - start) j = f j by unfold rotF; rw [if_neg (by omega), if_neg (by omega)]]
  exact h1 i j g1 g2 (by omega)
theorem rot_so2 {f : Nat → α} {a m b mid start : Nat} (h2 : SOf lt f m b) (hm : start ≤ m) (hd : start ≤ mid) (he : m + mid - start ≤ b) : SOf lt (rotF f start m (m + mid - start)) start mid := by
  intro i j g1 g2 g3
  rw [show rotF f start m (m + mid - start) i = f (i + (m - start)) by unfold rotF; rw [if_pos (by omega)], show rotF f start m (m + mid - start) j = f (j + (m - start)) by unfold rotF; rw [if_pos (by omega)]]
  exact h2 _ _ (by omega) (by omega) (by omega)
theorem rot_so3 {f : Nat → α} {a m b mid start : Nat} (h1 : SOf lt f a m) (hlo : a ≤ start) (hm : start ≤ m) (hd : start ≤ mid) : SOf lt (rotF f start m (m + mid - start)) mid (m + mid - start) := by
  intro i j g1 g2 g3
  rw [show rotF f start m (m + mid - start) i = f (i - (mid - start)) by unfold rotF; rw [if_neg (by omega), if_pos (by omega)]; congr 1; omega, show rotF f start m (m + mid - start) j = f (j - (mid - start)) by unfold rotF; rw [if_neg (by omega), if_pos (by omega)]; congr 1; omega]
  exact h1 _ _ (by omega) (by omega) (by omega)
theorem rot_so4 {f : Nat → α} {a m b mid start : Nat} (h2 : SOf lt f m b) (hm : start ≤ m) (hd : start ≤ mid) : SOf lt (rotF f start m (m + mid - start)) (m + mid - start) b := by
  intro i j g1 g2 g3
  rw [show rotF f start m (m + mid - start) i = f i by unfold rotF; rw [if_neg (by omega), if_neg (by omega)], show rotF f start m (m + mid - start) j = f j by unfold rotF; rw [if_neg (by omega), if_neg (by omega)]]
  exact h2 i j (by omega) g2 g3
end
end Go.Proofs.YtkcgokkgefgcjaaGreatDoor.H
end
