/- What the proof of the law DiskCrash needs, cut out of the session's own texts by a program (slim.py): part 3. -/
import Derived.Test.YthfoanmokcepcaaQDiskCrashb
section
namespace Go.Proofs.Ythfoanmokcepcaa.X0
open Go.Proofs.Ythfoanmokcepcaa.H
set_option linter.unusedVariables false
set_option maxRecDepth 100000
/-- cordwain/cordwainalike.Sum -/
def c10 (a0 a1 : HV) (s : HS) (Q : HV → HS → Prop) : Prop :=
  HLoop (fun y2 s3 K1 => bindO (vLenT (Try.prog.underlying 24) s3 a1) fun x4 => bindO (vBin .lss (y2.tail.headD .junk) x4) fun x5 => hcond x5 (Join (fun K6 => bindO (vBin .gtr (y2.headD .junk) (.lit (.int .i64 1099511627776))) fun x9 => hcond x9 (K6 [(.lit (.bool true))] s3) (bindO (vIdx 1 a1 (y2.tail.headD .junk)) fun x10 => bindO (vLoad s3 x10 1 false) fun x11 => bindO (vBin .sub (.lit (.int .i64 1099511627776)) (y2.headD .junk)) fun x12 => bindO (vBin .gtr x11 x12) fun x13 => K6 [x13] s3)) (fun y7 s8 => hcond (y7.headD .junk) (Q (.lit (.int .i64 1099511627776)) s8) (bindO (vIdx 1 a1 (y2.tail.headD .junk)) fun x14 => bindO (vLoad s8 x14 1 false) fun x15 => bindO (vBin .add (y2.headD .junk) x15) fun x16 => bindO (vBin .add (y2.tail.headD .junk) (.lit (.int .i64 1))) fun x17 => K1 [x16, x17] s8))) (Q (y2.headD .junk) s3)) [a0, (.lit (.int .i64 0))] s
theorem c10_eq (a0 a1 : HV) (s : HS) (Q : HV → HS → Prop) : (match Try.f10.body with | some c => hwp Try.prog (fun p => if p = 26 then some [0, 5] else if p = 840 then some [22] else none) false 1 c (hretQ Try.prog Try.f10.results.toList Q) (([a0, a1] : List HV) ++ List.replicate (Try.f10.ntmps - 2) (.lit undef)) s | none => False) = c10 a0 a1 s Q := by kernel_rfl
theorem HC10 {a0 a1 : HV} {s : HS} {Q : HV → HS → Prop} (h : c10 a0 a1 s Q) : HC Try.prog 10 [a0, a1] s Q := HC_by Try.func10 (by have := c10_eq a0 a1 s Q; exact this.mpr h)
/-- cordwain/cordwainalike.Texts -/
def c50 (a0 a1 : HV) (s : HS) (Q : HV → HS → Prop) : Prop :=
  bindO (vLenT (Try.prog.underlying 41) s a0) fun x1 => bindO (vLenT (Try.prog.underlying 41) s a1) fun x2 => bindO (vCmp (Try.prog.underlying 3) .neq x1 x2) fun x3 => hcond x3 (Q (.lit (.bool false)) s) (HLoop (fun y5 s6 K4 => bindO (vLenT (Try.prog.underlying 41) s6 a0) fun x7 => bindO (vBin .lss (y5.headD .junk) x7) fun x8 => hcond x8 (bindO (vIdx 1 a0 (y5.headD .junk)) fun x9 => bindO (vLoad s6 x9 1 false) fun x10 => bindO (vIdx 1 a1 (y5.headD .junk)) fun x11 => bindO (vLoad s6 x11 1 false) fun x12 => bindO (vCmp (Try.prog.underlying 9) .neq x10 x12) fun x13 => hcond x13 (Q (.lit (.bool false)) s6) (bindO (vBin .add (y5.headD .junk) (.lit (.int .i64 1))) fun x14 => K4 [x14] s6)) (Q (.lit (.bool true)) s6)) [(.lit (.int .i64 0))] s)
theorem c50_eq (a0 a1 : HV) (s : HS) (Q : HV → HS → Prop) : (match Try.f50.body with | some c => hwp Try.prog (fun p => if p = 58 then some [5] else none) false 1 c (hretQ Try.prog Try.f50.results.toList Q) (([a0, a1] : List HV) ++ List.replicate (Try.f50.ntmps - 2) (.lit undef)) s | none => False) = c50 a0 a1 s Q := by kernel_rfl
theorem HC50 {a0 a1 : HV} {s : HS} {Q : HV → HS → Prop} (h : c50 a0 a1 s Q) : HC Try.prog 50 [a0, a1] s Q := HC_by Try.func50 (by have := c50_eq a0 a1 s Q; exact this.mpr h)
/-- cordwain/disk.may -/
def c56 (a0 : HV) (s : HS) (Q : HV → HS → Prop) : Prop :=
  bindO (vLenT (Try.prog.underlying 9) s a0) fun x1 => bindO (vBin .geq x1 (.lit (.int .i64 1))) fun x2 => hcond x2 (bindO (vLenT (Try.prog.underlying 9) s a0) fun x3 => bindO (vBin .leq x3 (.lit (.int .i64 100))) fun x4 => Q x4 s) (Q (.lit (.bool false)) s)
theorem c56_eq (a0 : HV) (s : HS) (Q : HV → HS → Prop) : (match Try.f56.body with | some c => hwp Try.prog (fun p => none) false 1 c (hretQ Try.prog Try.f56.results.toList Q) (([a0] : List HV) ++ List.replicate (Try.f56.ntmps - 1) (.lit undef)) s | none => False) = c56 a0 s Q := by kernel_rfl
theorem HC56 {a0 : HV} {s : HS} {Q : HV → HS → Prop} (h : c56 a0 s Q) : HC Try.prog 56 [a0] s Q := HC_by Try.func56 (by have := c56_eq a0 s Q; exact this.mpr h)
/-- (*cordwain/disk.Disk).asked -/
def c34 (a0 a1 : HV) (s : HS) (Q : HV → HS → Prop) : Prop :=
  Join (fun K1 => bindO (vCmp (Try.prog.underlying 27) .eql a0 (.lit (.pointer none))) fun x4 => hcond x4 (K1 [(.lit (.bool true))] s) (bindO (vNil a0) fun x5 => bindO (vField 1 x5) fun x6 => bindO (vLoad s x6 1 false) fun x7 => bindO (vCmp (Try.prog.underlying 72) .eql x7 (.lit (.map none))) fun x8 => K1 [x8] s)) (fun y2 s3 => hcond (y2.headD .junk) (Q (.lit (.int .i64 7)) s3) (bindO (vNil a0) fun x9 => bindO (vField 7 x9) fun x10 => bindO (vLoad s3 x10 1 false) fun x11 => bindO (vBin .add x11 (.lit (.int .i64 1))) fun x12 => bindO (vNil a0) fun x13 => bindO (vField 7 x13) fun x14 => hStore s3 x14 x12 1 (fun s15 => Join (fun K16 => bindO (vNil a0) fun x19 => bindO (vField 5 x19) fun x20 => bindO (vLoad s15 x20 1 false) fun x21 => hcond x21 (bindO (vNil a0) fun x22 => bindO (vField 5 x22) fun x23 => hStore s15 x23 (.lit (.bool true)) 1 (fun s24 => K16 [] s24)) (bindO (vNil a0) fun x25 => bindO (vField 4 x25) fun x26 => bindO (vLoad s15 x26 1 false) fun x27 => hcond x27 (bindO (vNil a0) fun x28 => bindO (vField 6 x28) fun x29 => bindO (vLoad s15 x29 1 false) fun x30 => bindO (vCmp (Try.prog.underlying 3) .eql x30 (.lit (.int .i64 0))) fun x31 => bindO (vNil a0) fun x32 => bindO (vField 5 x32) fun x33 => hStore s15 x33 x31 1 (fun s34 => K16 [] s34)) (bindO (vNil a0) fun x35 => bindO (vField 5 x35) fun x36 => hStore s15 x36 (.lit (.bool false)) 1 (fun s37 => K16 [] s37)))) (fun y17 s18 => bindO (vNil a0) fun x38 => bindO (vField 5 x38) fun x39 => bindO (vLoad s18 x39 1 false) fun x40 => hcond x40 (Q (.lit (.int .i64 7)) s18) (bindO (vNil a0) fun x41 => bindO (vField 6 x41) fun x42 => bindO (vLoad s18 x42 1 false) fun x43 => bindO (vBin .sub x43 (.lit (.int .i64 1))) fun x44 => bindO (vNil a0) fun x45 => bindO (vField 6 x45) fun x46 => hStore s18 x46 x44 1 (fun s47 => bindO (vLenT (Try.prog.underlying 41) s47 a1) fun x48 => HLoop (fun y50 s51 K49 => bindO (vBin .lss (y50.headD .junk) x48) fun x52 => hcond x52 (bindO (vIdx 1 a1 (y50.headD .junk)) fun x53 => bindO (vLoad s51 x53 1 false) fun x54 => HC Try.prog 56 [x54] s51 (fun r55 s56 => bindO (vUn .not r55) fun x57 => hcond x57 (Q (.lit (.int .i64 1)) s56) (bindO (vBin .add (y50.headD .junk) (.lit (.int .i64 1))) fun x58 => K49 [x58] s56))) (Q (.lit (.int .i64 0)) s51)) [(.lit (.int .i64 0))] s47))))))
theorem c34_eq (a0 a1 : HV) (s : HS) (Q : HV → HS → Prop) : (match Try.f34.body with | some c => hwp Try.prog (fun p => if p = 6 then some [15] else if p = 30 then some [] else if p = 506 then some [56] else none) false 1 c (hretQ Try.prog Try.f34.results.toList Q) (([a0, a1] : List HV) ++ List.replicate (Try.f34.ntmps - 2) (.lit undef)) s | none => False) = c34 a0 a1 s Q := by kernel_rfl
theorem HC34 {a0 a1 : HV} {s : HS} {Q : HV → HS → Prop} (h : c34 a0 a1 s Q) : HC Try.prog 34 [a0, a1] s Q := HC_by Try.func34 (by have := c34_eq a0 a1 s Q; exact this.mpr h)
/-- (*cordwain/disk.Disk).has -/
def c36 (a0 a1 a2 : HV) (s : HS) (Q : HV → HS → Prop) : Prop :=
  hBS s 1 1 [.lit (.string .empty)] [(0, a1)] (fun x1 s2 => hAppend s2 1 16 a2 x1 (fun x3 s4 => HC Try.prog 34 [a0, x3] s4 (fun r5 s6 => bindO (vCmp (Try.prog.underlying 28) .neq r5 (.lit (.int .i64 0))) fun x7 => hcond x7 (Q (.tup [(.lit (.pointer none)), r5]) s6) (bindO (vNil a0) fun x8 => bindO (vField 1 x8) fun x9 => bindO (vLoad s6 x9 1 false) fun x10 => bindO (vLookup s6 (Try.prog.underlying 9) (.lit (.pointer none)) x10 a1 false) fun x11 => bindO (vCmp (Try.prog.underlying 77) .eql x11 (.lit (.pointer none))) fun x12 => hcond x12 (Q (.tup [(.lit (.pointer none)), (.lit (.int .i64 5))]) s6) (Q (.tup [x11, (.lit (.int .i64 0))]) s6)))))
theorem c36_eq (a0 a1 a2 : HV) (s : HS) (Q : HV → HS → Prop) : (match Try.f36.body with | some c => hwp Try.prog (fun p => none) false 1 c (hretQ Try.prog Try.f36.results.toList Q) (([a0, a1, a2] : List HV) ++ List.replicate (Try.f36.ntmps - 3) (.lit undef)) s | none => False) = c36 a0 a1 a2 s Q := by kernel_rfl
theorem HC36 {a0 a1 a2 : HV} {s : HS} {Q : HV → HS → Prop} (h : c36 a0 a1 a2 s Q) : HC Try.prog 36 [a0, a1, a2] s Q := HC_by Try.func36 (by have := c36_eq a0 a1 a2 s Q; exact this.mpr h)
/-- cordwain/disk.does -/
def c39 (a0 a1 : HV) (s : HS) (Q : HV → HS → Prop) : Prop :=
  hBox s a1 (fun x1 s2 => bindO (vField 2 x1) fun x3 => bindO (vLoad s2 x3 1 false) fun x4 => Join (fun K5 => bindO (vField 0 x1) fun x8 => bindO (vLoad s2 x8 1 false) fun x9 => bindO (vCmp (Try.prog.underlying 9) .neq x9 (.lit (.string { data := #[] }))) fun x10 => hcond x10 (bindO (vField 0 x1) fun x11 => bindO (vLoad s2 x11 1 false) fun x12 => bindO (vLookup s2 (Try.prog.underlying 9) (.lit (.pointer none)) a0 x12 false) fun x13 => bindO (vField 0 x1) fun x14 => bindO (vLoad s2 x14 1 false) fun x15 => hMapDel s2 (Try.prog.underlying 9) a0 x15 (fun s16 => K5 [x13] s16)) (K5 [x4] s2)) (fun y6 s7 => bindO (vField 1 x1) fun x17 => bindO (vLoad s7 x17 1 false) fun x18 => bindO (vCmp (Try.prog.underlying 9) .neq x18 (.lit (.string { data := #[] }))) fun x19 => hcond x19 (bindO (vField 1 x1) fun x20 => bindO (vLoad s7 x20 1 false) fun x21 => hMapSet s7 (Try.prog.underlying 9) a0 x21 (y6.headD .junk) (fun s22 => Q (.tup []) s22)) (Q (.tup []) s7)))
theorem c39_eq (a0 a1 : HV) (s : HS) (Q : HV → HS → Prop) : (match Try.f39.body with | some c => hwp Try.prog (fun p => if p = 7 then some [4] else none) false 1 c (hretQ Try.prog Try.f39.results.toList Q) (([a0, a1] : List HV) ++ List.replicate (Try.f39.ntmps - 2) (.lit undef)) s | none => False) = c39 a0 a1 s Q := by kernel_rfl
theorem HC39 {a0 a1 : HV} {s : HS} {Q : HV → HS → Prop} (h : c39 a0 a1 s Q) : HC Try.prog 39 [a0, a1] s Q := HC_by Try.func39 (by have := c39_eq a0 a1 s Q; exact this.mpr h)
/-- (*cordwain/disk.Disk).name -/
def c35 (a0 a1 : HV) (s : HS) (Q : HV → HS → Prop) : Prop :=
  hBox s a1 (fun x1 s2 => bindO (vNil a0) fun x3 => bindO (vField 1 x3) fun x4 => bindO (vLoad s2 x4 1 false) fun x5 => bindO (vLoad s2 x1 3 true) fun x6 => HC Try.prog 39 [x5, x6] s2 (fun r7 s8 => bindO (vNil a0) fun x9 => bindO (vField 3 x9) fun x10 => bindO (vLoad s8 x10 1 false) fun x11 => bindO (vLoad s8 x1 3 true) fun x12 => hBS s8 3 1 [.lit (.string .empty), .lit (.string .empty), .lit (.pointer none)] [(0, x12)] (fun x13 s14 => (vLoad s14 x10 1 false = vLoad s8 x10 1 false ∧ hAppend s14 3 40 x11 x13 (fun x15 s16 => bindO (vNil a0) fun x17 => bindO (vField 3 x17) fun x18 => hStore s16 x18 x15 1 (fun s19 => Q (.tup []) s19))))))
theorem c35_eq (a0 a1 : HV) (s : HS) (Q : HV → HS → Prop) : (match Try.f35.body with | some c => hwp Try.prog (fun p => none) false 1 c (hretQ Try.prog Try.f35.results.toList Q) (([a0, a1] : List HV) ++ List.replicate (Try.f35.ntmps - 2) (.lit undef)) s | none => False) = c35 a0 a1 s Q := by kernel_rfl
theorem HC35 {a0 a1 : HV} {s : HS} {Q : HV → HS → Prop} (h : c35 a0 a1 s Q) : HC Try.prog 35 [a0, a1] s Q := HC_by Try.func35 (by have := c35_eq a0 a1 s Q; exact this.mpr h)
/-- (*cordwain/disk.Disk).Used -/
def c21 (a0 : HV) (s : HS) (Q : HV → HS → Prop) : Prop :=
  bindO (vCmp (Try.prog.underlying 27) .eql a0 (.lit (.pointer none))) fun x1 => hcond x1 (Q (.lit (.int .i64 0)) s) (bindO (vNil a0) fun x2 => bindO (vField 1 x2) fun x3 => bindO (vLoad s x3 1 false) fun x4 => hRangeM s x4 (fun x5 s6 => HLoop (fun y8 s9 K7 => hNext s9 x5 (fun x10 s11 => bindO (vExtract x10 0) fun x12 => hcond x12 (bindO (vEntry s11 x5) fun x13 => bindO (vExtract x13 1) fun x14 => bindO (vNil x14) fun x15 => bindO (vField 0 x15) fun x16 => bindO (vLoad s11 x16 1 false) fun x17 => bindO (vLenT (Try.prog.underlying 22) s11 x17) fun x18 => bindO (vBin .add (y8.headD .junk) x18) fun x19 => K7 [x19] s11) (Q (y8.headD .junk) s11))) [(.lit (.int .i64 0))] s6))
theorem c21_eq (a0 : HV) (s : HS) (Q : HV → HS → Prop) : (match Try.f21.body with | some c => hwp Try.prog (fun p => if p = 58 then some [2] else none) false 1 c (hretQ Try.prog Try.f21.results.toList Q) (([a0] : List HV) ++ List.replicate (Try.f21.ntmps - 1) (.lit undef)) s | none => False) = c21 a0 s Q := by kernel_rfl
theorem HC21 {a0 : HV} {s : HS} {Q : HV → HS → Prop} (h : c21 a0 s Q) : HC Try.prog 21 [a0] s Q := HC_by Try.func21 (by have := c21_eq a0 s Q; exact this.mpr h)
/-- cordwain/disk.New -/
def c12 (a0 : HV) (s : HS) (Q : HV → HS → Prop) : Prop :=
  Join (fun K1 => bindO (vBin .lss a0 (.lit (.int .i64 0))) fun x4 => hcond x4 (K1 [(.lit (.bool true))] s) (bindO (vBin .gtr a0 (.lit (.int .i64 1099511627776))) fun x5 => K1 [x5] s)) (fun y2 s3 => hcond (y2.headD .junk) (Q (.tup [(.lit (.pointer none)), (.lit (.int .i64 1))]) s3) (hNew s3 (.map .string (fun _ => none) 0) (fun id => .map id) (fun x6 s7 => hNew s7 (.map .string (fun _ => none) 0) (fun id => .map id) (fun x8 s9 => bindO (vMk [(0, 1), (1, 1), (2, 1), (3, 1), (4, 1), (5, 1), (6, 1), (7, 1)] [.lit (.int .i64 0), .lit (.map none), .lit (.map none), .lit (.slice none 0 0), .lit (.bool false), .lit (.bool false), .lit (.int .i64 0), .lit (.int .i64 0)] [(0, a0), (1, x6), (2, x8)]) fun x10 => hBox s9 x10 (fun x11 s12 => Q (.tup [x11, (.lit (.int .i64 0))]) s12)))))
theorem c12_eq (a0 : HV) (s : HS) (Q : HV → HS → Prop) : (match Try.f12.body with | some c => hwp Try.prog (fun p => if p = 6 then some [9] else none) false 1 c (hretQ Try.prog Try.f12.results.toList Q) (([a0] : List HV) ++ List.replicate (Try.f12.ntmps - 1) (.lit undef)) s | none => False) = c12 a0 s Q := by kernel_rfl
theorem HC12 {a0 : HV} {s : HS} {Q : HV → HS → Prop} (h : c12 a0 s Q) : HC Try.prog 12 [a0] s Q := HC_by Try.func12 (by have := c12_eq a0 s Q; exact this.mpr h)
/-- (*cordwain/disk.Disk).Append -/
def c13 (a0 a1 a2 : HV) (s : HS) (Q : HV → HS → Prop) : Prop :=
  hBS s 1 1 [.lit (.string .empty)] [(0, a1)] (fun x1 s2 => HC Try.prog 34 [a0, x1] s2 (fun r3 s4 => bindO (vCmp (Try.prog.underlying 28) .neq r3 (.lit (.int .i64 0))) fun x5 => hcond x5 (Q r3 s4) (bindO (vLenT (Try.prog.underlying 22) s4 a2) fun x6 => bindO (vNil a0) fun x7 => bindO (vField 0 x7) fun x8 => bindO (vLoad s4 x8 1 false) fun x9 => HC Try.prog 21 [a0] s4 (fun r10 s11 => (vLoad s11 x8 1 false = vLoad s4 x8 1 false ∧ (vLenT (Try.prog.underlying 22) s11 a2 = vLenT (Try.prog.underlying 22) s4 a2 ∧ bindO (vBin .sub x9 r10) fun x12 => bindO (vBin .gtr x6 x12) fun x13 => hcond x13 (Q (.lit (.int .i64 4)) s11) (bindO (vNil a0) fun x14 => bindO (vField 1 x14) fun x15 => bindO (vLoad s11 x15 1 false) fun x16 => bindO (vLookup s11 (Try.prog.underlying 9) (.lit (.pointer none)) x16 a1 false) fun x17 => Join (fun K18 => bindO (vCmp (Try.prog.underlying 77) .eql x17 (.lit (.pointer none))) fun x21 => hcond x21 (hBox s11 (.agg [.lit (.slice none 0 0), .lit (.int .i64 0)]) (fun x22 s23 => bindO (vMk [(0, 1), (1, 1), (2, 1)] [.lit (.string .empty), .lit (.string .empty), .lit (.pointer none)] [(1, a1), (2, x22)]) fun x24 => HC Try.prog 35 [a0, x24] s23 (fun r25 s26 => K18 [x22] s26))) (K18 [x17] s11)) (fun y19 s20 => bindO (vNil (y19.headD .junk)) fun x27 => bindO (vField 0 x27) fun x28 => bindO (vLoad s20 x28 1 false) fun x29 => hAppend s20 1 1 x29 a2 (fun x30 s31 => bindO (vNil (y19.headD .junk)) fun x32 => bindO (vField 0 x32) fun x33 => hStore s31 x33 x30 1 (fun s34 => Q (.lit (.int .i64 0)) s34))))))))))
theorem c13_eq (a0 a1 a2 : HV) (s : HS) (Q : HV → HS → Prop) : (match Try.f13.body with | some c => hwp Try.prog (fun p => if p = 31 then some [8] else none) false 1 c (hretQ Try.prog Try.f13.results.toList Q) (([a0, a1, a2] : List HV) ++ List.replicate (Try.f13.ntmps - 3) (.lit undef)) s | none => False) = c13 a0 a1 a2 s Q := by kernel_rfl
theorem HC13 {a0 a1 a2 : HV} {s : HS} {Q : HV → HS → Prop} (h : c13 a0 a1 a2 s Q) : HC Try.prog 13 [a0, a1, a2] s Q := HC_by Try.func13 (by have := c13_eq a0 a1 a2 s Q; exact this.mpr h)
/-- (*cordwain/disk.Disk).Sync -/
def c14 (a0 a1 : HV) (s : HS) (Q : HV → HS → Prop) : Prop :=
  HC Try.prog 36 [a0, a1, (.lit (.slice none 0 0))] s (fun r1 s2 => bindO (vExtract r1 0) fun x3 => bindO (vExtract r1 1) fun x4 => Join (fun K5 => bindO (vCmp (Try.prog.underlying 28) .eql x4 (.lit (.int .i64 0))) fun x8 => hcond x8 (bindO (vNil x3) fun x9 => bindO (vField 0 x9) fun x10 => bindO (vLoad s2 x10 1 false) fun x11 => bindO (vLenT (Try.prog.underlying 22) s2 x11) fun x12 => bindO (vNil x3) fun x13 => bindO (vField 1 x13) fun x14 => hStore s2 x14 x12 1 (fun s15 => K5 [] s15)) (K5 [] s2)) (fun y6 s7 => Q x4 s7))
theorem c14_eq (a0 a1 : HV) (s : HS) (Q : HV → HS → Prop) : (match Try.f14.body with | some c => hwp Try.prog (fun p => if p = 7 then some [] else none) false 1 c (hretQ Try.prog Try.f14.results.toList Q) (([a0, a1] : List HV) ++ List.replicate (Try.f14.ntmps - 2) (.lit undef)) s | none => False) = c14 a0 a1 s Q := by kernel_rfl
theorem HC14 {a0 a1 : HV} {s : HS} {Q : HV → HS → Prop} (h : c14 a0 a1 s Q) : HC Try.prog 14 [a0, a1] s Q := HC_by Try.func14 (by have := c14_eq a0 a1 s Q; exact this.mpr h)
/-- (*cordwain/disk.Disk).SyncDir -/
def c15 (a0 : HV) (s : HS) (Q : HV → HS → Prop) : Prop :=
  HC Try.prog 34 [a0, (.lit (.slice none 0 0))] s (fun r1 s2 => Join (fun K3 => bindO (vCmp (Try.prog.underlying 28) .eql r1 (.lit (.int .i64 0))) fun x6 => hcond x6 (bindO (vNil a0) fun x7 => bindO (vField 1 x7) fun x8 => bindO (vLoad s2 x8 1 false) fun x9 => HC Try.prog 37 [x9] s2 (fun r10 s11 => bindO (vNil a0) fun x12 => bindO (vField 2 x12) fun x13 => hStore s11 x13 r10 1 (fun s14 => bindO (vNil a0) fun x15 => bindO (vField 3 x15) fun x16 => hStore s14 x16 (.lit (.slice none 0 0)) 1 (fun s17 => K3 [] s17)))) (K3 [] s2)) (fun y4 s5 => Q r1 s5))
theorem c15_eq (a0 : HV) (s : HS) (Q : HV → HS → Prop) : (match Try.f15.body with | some c => hwp Try.prog (fun p => if p = 7 then some [] else none) false 1 c (hretQ Try.prog Try.f15.results.toList Q) (([a0] : List HV) ++ List.replicate (Try.f15.ntmps - 1) (.lit undef)) s | none => False) = c15 a0 s Q := by kernel_rfl
theorem HC15 {a0 : HV} {s : HS} {Q : HV → HS → Prop} (h : c15 a0 s Q) : HC Try.prog 15 [a0] s Q := HC_by Try.func15 (by have := c15_eq a0 s Q; exact this.mpr h)
/-- (*cordwain/disk.Disk).Ops -/
def c22 (a0 : HV) (s : HS) (Q : HV → HS → Prop) : Prop :=
  bindO (vCmp (Try.prog.underlying 27) .eql a0 (.lit (.pointer none))) fun x1 => hcond x1 (Q (.lit (.int .i64 0)) s) (bindO (vNil a0) fun x2 => bindO (vField 7 x2) fun x3 => bindO (vLoad s x3 1 false) fun x4 => Q x4 s)
theorem c22_eq (a0 : HV) (s : HS) (Q : HV → HS → Prop) : (match Try.f22.body with | some c => hwp Try.prog (fun p => none) false 1 c (hretQ Try.prog Try.f22.results.toList Q) (([a0] : List HV) ++ List.replicate (Try.f22.ntmps - 1) (.lit undef)) s | none => False) = c22 a0 s Q := by kernel_rfl
theorem HC22 {a0 : HV} {s : HS} {Q : HV → HS → Prop} (h : c22 a0 s Q) : HC Try.prog 22 [a0] s Q := HC_by Try.func22 (by have := c22_eq a0 s Q; exact this.mpr h)
/-- slices.Clone[[]byte,byte] -/
def c42 (a0 : HV) (s : HS) (Q : HV → HS → Prop) : Prop :=
  bindO (vCmp (Try.prog.underlying 22) .eql a0 (.lit (.slice none 0 0))) fun x1 => hcond x1 (Q (.lit (.slice none 0 0)) s) (hBS s 1 0 [] [] (fun x2 s3 => hAppend s3 1 1 x2 a0 (fun x4 s5 => Q x4 s5)))
theorem c42_eq (a0 : HV) (s : HS) (Q : HV → HS → Prop) : (match Try.f42.body with | some c => hwp Try.prog (fun p => none) false 1 c (hretQ Try.prog Try.f42.results.toList Q) (([a0] : List HV) ++ List.replicate (Try.f42.ntmps - 1) (.lit undef)) s | none => False) = c42 a0 s Q := by kernel_rfl
theorem HC42 {a0 : HV} {s : HS} {Q : HV → HS → Prop} (h : c42 a0 s Q) : HC Try.prog 42 [a0] s Q := HC_by Try.func42 (by have := c42_eq a0 s Q; exact this.mpr h)
/-- (*cordwain/disk.Disk).Size -/
def c19 (a0 a1 : HV) (s : HS) (Q : HV → HS → Prop) : Prop :=
  Join (fun K1 => bindO (vCmp (Try.prog.underlying 27) .eql a0 (.lit (.pointer none))) fun x4 => hcond x4 (K1 [(.lit (.bool true))] s) (bindO (vNil a0) fun x5 => bindO (vField 1 x5) fun x6 => bindO (vLoad s x6 1 false) fun x7 => bindO (vLookup s (Try.prog.underlying 9) (.lit (.pointer none)) x7 a1 false) fun x8 => bindO (vCmp (Try.prog.underlying 77) .eql x8 (.lit (.pointer none))) fun x9 => K1 [x9] s)) (fun y2 s3 => hcond (y2.headD .junk) (Q (.lit (.int .i64 (-1))) s3) (bindO (vNil a0) fun x10 => bindO (vField 1 x10) fun x11 => bindO (vLoad s3 x11 1 false) fun x12 => bindO (vLookup s3 (Try.prog.underlying 9) (.lit (.pointer none)) x12 a1 false) fun x13 => bindO (vNil x13) fun x14 => bindO (vField 0 x14) fun x15 => bindO (vLoad s3 x15 1 false) fun x16 => bindO (vLenT (Try.prog.underlying 22) s3 x16) fun x17 => Q x17 s3))
theorem c19_eq (a0 a1 : HV) (s : HS) (Q : HV → HS → Prop) : (match Try.f19.body with | some c => hwp Try.prog (fun p => if p = 6 then some [15] else none) false 1 c (hretQ Try.prog Try.f19.results.toList Q) (([a0, a1] : List HV) ++ List.replicate (Try.f19.ntmps - 2) (.lit undef)) s | none => False) = c19 a0 a1 s Q := by kernel_rfl
theorem HC19 {a0 a1 : HV} {s : HS} {Q : HV → HS → Prop} (h : c19 a0 a1 s Q) : HC Try.prog 19 [a0, a1] s Q := HC_by Try.func19 (by have := c19_eq a0 a1 s Q; exact this.mpr h)
/-- (*cordwain/disk.Disk).Names -/
def c20 (a0 : HV) (s : HS) (Q : HV → HS → Prop) : Prop :=
  bindO (vCmp (Try.prog.underlying 27) .eql a0 (.lit (.pointer none))) fun x1 => hcond x1 (Q (.lit (.slice none 0 0)) s) (bindO (vNil a0) fun x2 => bindO (vField 1 x2) fun x3 => bindO (vLoad s x3 1 false) fun x4 => HC Try.prog 41 [x4] s (fun r5 s6 => HC Try.prog 40 [r5] s6 (fun r7 s8 => Q r7 s8)))
theorem c20_eq (a0 : HV) (s : HS) (Q : HV → HS → Prop) : (match Try.f20.body with | some c => hwp Try.prog (fun p => none) false 1 c (hretQ Try.prog Try.f20.results.toList Q) (([a0] : List HV) ++ List.replicate (Try.f20.ntmps - 1) (.lit undef)) s | none => False) = c20 a0 s Q := by kernel_rfl
theorem HC20 {a0 : HV} {s : HS} {Q : HV → HS → Prop} (h : c20 a0 s Q) : HC Try.prog 20 [a0] s Q := HC_by Try.func20 (by have := c20_eq a0 s Q; exact this.mpr h)
/-- (*cordwain/disk.Disk).Read -/
def c17 (a0 a1 : HV) (s : HS) (Q : HV → HS → Prop) : Prop :=
  HC Try.prog 19 [a0, a1] s (fun r1 s2 => bindO (vBin .lss r1 (.lit (.int .i64 0))) fun x3 => hcond x3 (Q (.tup [(.lit (.slice none 0 0)), (.lit (.int .i64 5))]) s2) (bindO (vNil a0) fun x4 => bindO (vField 1 x4) fun x5 => bindO (vLoad s2 x5 1 false) fun x6 => bindO (vLookup s2 (Try.prog.underlying 9) (.lit (.pointer none)) x6 a1 false) fun x7 => bindO (vNil x7) fun x8 => bindO (vField 0 x8) fun x9 => bindO (vLoad s2 x9 1 false) fun x10 => HC Try.prog 42 [x10] s2 (fun r11 s12 => Q (.tup [r11, (.lit (.int .i64 0))]) s12)))
theorem c17_eq (a0 a1 : HV) (s : HS) (Q : HV → HS → Prop) : (match Try.f17.body with | some c => hwp Try.prog (fun p => none) false 1 c (hretQ Try.prog Try.f17.results.toList Q) (([a0, a1] : List HV) ++ List.replicate (Try.f17.ntmps - 2) (.lit undef)) s | none => False) = c17 a0 a1 s Q := by kernel_rfl
theorem HC17 {a0 a1 : HV} {s : HS} {Q : HV → HS → Prop} (h : c17 a0 a1 s Q) : HC Try.prog 17 [a0, a1] s Q := HC_by Try.func17 (by have := c17_eq a0 a1 s Q; exact this.mpr h)
/-- (*cordwain/disk.Disk).Rename -/
def c18 (a0 a1 a2 : HV) (s : HS) (Q : HV → HS → Prop) : Prop :=
  hBS s 1 1 [.lit (.string .empty)] [(0, a2)] (fun x1 s2 => HC Try.prog 36 [a0, a1, x1] s2 (fun r3 s4 => bindO (vExtract r3 0) fun x5 => bindO (vExtract r3 1) fun x6 => bindO (vCmp (Try.prog.underlying 28) .neq x6 (.lit (.int .i64 0))) fun x7 => hcond x7 (Q x6 s4) (bindO (vCmp (Try.prog.underlying 9) .eql a1 a2) fun x8 => hcond x8 (Q (.lit (.int .i64 1)) s4) (bindO (vMk [(0, 1), (1, 1), (2, 1)] [.lit (.string .empty), .lit (.string .empty), .lit (.pointer none)] [(0, a1), (1, a2)]) fun x9 => HC Try.prog 35 [a0, x9] s4 (fun r10 s11 => Q (.lit (.int .i64 0)) s11)))))
theorem c18_eq (a0 a1 a2 : HV) (s : HS) (Q : HV → HS → Prop) : (match Try.f18.body with | some c => hwp Try.prog (fun p => none) false 1 c (hretQ Try.prog Try.f18.results.toList Q) (([a0, a1, a2] : List HV) ++ List.replicate (Try.f18.ntmps - 3) (.lit undef)) s | none => False) = c18 a0 a1 a2 s Q := by kernel_rfl
theorem HC18 {a0 a1 a2 : HV} {s : HS} {Q : HV → HS → Prop} (h : c18 a0 a1 a2 s Q) : HC Try.prog 18 [a0, a1, a2] s Q := HC_by Try.func18 (by have := c18_eq a0 a1 a2 s Q; exact this.mpr h)
/-- (*cordwain/disk.Disk).Truncate -/
def c24 (a0 a1 a2 : HV) (s : HS) (Q : HV → HS → Prop) : Prop :=
  HC Try.prog 36 [a0, a1, (.lit (.slice none 0 0))] s (fun r1 s2 => bindO (vExtract r1 0) fun x3 => bindO (vExtract r1 1) fun x4 => bindO (vCmp (Try.prog.underlying 28) .neq x4 (.lit (.int .i64 0))) fun x5 => hcond x5 (Q x4 s2) (Join (fun K6 => bindO (vBin .lss a2 (.lit (.int .i64 0))) fun x9 => hcond x9 (K6 [(.lit (.bool true))] s2) (bindO (vNil x3) fun x10 => bindO (vField 0 x10) fun x11 => bindO (vLoad s2 x11 1 false) fun x12 => bindO (vLenT (Try.prog.underlying 22) s2 x12) fun x13 => bindO (vBin .gtr a2 x13) fun x14 => K6 [x14] s2)) (fun y7 s8 => hcond (y7.headD .junk) (Q (.lit (.int .i64 1)) s8) (bindO (vNil x3) fun x15 => bindO (vField 0 x15) fun x16 => bindO (vLoad s8 x16 1 false) fun x17 => bindO (vSliceX 1 x17 none (some a2) (some a2)) fun x18 => bindO (vNil x3) fun x19 => bindO (vField 0 x19) fun x20 => hStore s8 x20 x18 1 (fun s21 => bindO (vNil x3) fun x22 => bindO (vField 1 x22) fun x23 => hStore s21 x23 a2 1 (fun s24 => Q (.lit (.int .i64 0)) s24))))))
theorem c24_eq (a0 a1 a2 : HV) (s : HS) (Q : HV → HS → Prop) : (match Try.f24.body with | some c => hwp Try.prog (fun p => if p = 115 then some [19] else none) false 1 c (hretQ Try.prog Try.f24.results.toList Q) (([a0, a1, a2] : List HV) ++ List.replicate (Try.f24.ntmps - 3) (.lit undef)) s | none => False) = c24 a0 a1 a2 s Q := by kernel_rfl
theorem HC24 {a0 a1 a2 : HV} {s : HS} {Q : HV → HS → Prop} (h : c24 a0 a1 a2 s Q) : HC Try.prog 24 [a0, a1, a2] s Q := HC_by Try.func24 (by have := c24_eq a0 a1 a2 s Q; exact this.mpr h)
/-- (*cordwain/disk.Disk).Remove -/
def c25 (a0 a1 : HV) (s : HS) (Q : HV → HS → Prop) : Prop :=
  HC Try.prog 36 [a0, a1, (.lit (.slice none 0 0))] s (fun r1 s2 => bindO (vExtract r1 0) fun x3 => bindO (vExtract r1 1) fun x4 => Join (fun K5 => bindO (vCmp (Try.prog.underlying 28) .eql x4 (.lit (.int .i64 0))) fun x8 => hcond x8 (bindO (vMk [(0, 1), (1, 1), (2, 1)] [.lit (.string .empty), .lit (.string .empty), .lit (.pointer none)] [(0, a1)]) fun x9 => HC Try.prog 35 [a0, x9] s2 (fun r10 s11 => K5 [] s11)) (K5 [] s2)) (fun y6 s7 => Q x4 s7))
theorem c25_eq (a0 a1 : HV) (s : HS) (Q : HV → HS → Prop) : (match Try.f25.body with | some c => hwp Try.prog (fun p => if p = 7 then some [] else none) false 1 c (hretQ Try.prog Try.f25.results.toList Q) (([a0, a1] : List HV) ++ List.replicate (Try.f25.ntmps - 2) (.lit undef)) s | none => False) = c25 a0 a1 s Q := by kernel_rfl
theorem HC25 {a0 a1 : HV} {s : HS} {Q : HV → HS → Prop} (h : c25 a0 a1 s Q) : HC Try.prog 25 [a0, a1] s Q := HC_by Try.func25 (by have := c25_eq a0 a1 s Q; exact this.mpr h)
/-- (*cordwain/disk.Disk).Cut -/
def c27 (a0 a1 : HV) (s : HS) (Q : HV → HS → Prop) : Prop :=
  bindO (vCmp (Try.prog.underlying 27) .neq a0 (.lit (.pointer none))) fun x1 => hcond x1 (bindO (hfold vMax2 a1 [(.lit (.int .i64 0))]) fun x2 => bindO (vNil a0) fun x3 => bindO (vField 4 x3) fun x4 => hStore s x4 (.lit (.bool true)) 1 (fun s5 => bindO (vNil a0) fun x6 => bindO (vField 6 x6) fun x7 => hStore s5 x7 x2 1 (fun s8 => Q (.tup []) s8))) (Q (.tup []) s)
theorem c27_eq (a0 a1 : HV) (s : HS) (Q : HV → HS → Prop) : (match Try.f27.body with | some c => hwp Try.prog (fun p => none) false 1 c (hretQ Try.prog Try.f27.results.toList Q) (([a0, a1] : List HV) ++ List.replicate (Try.f27.ntmps - 2) (.lit undef)) s | none => False) = c27 a0 a1 s Q := by kernel_rfl
theorem HC27 {a0 a1 : HV} {s : HS} {Q : HV → HS → Prop} (h : c27 a0 a1 s Q) : HC Try.prog 27 [a0, a1] s Q := HC_by Try.func27 (by have := c27_eq a0 a1 s Q; exact this.mpr h)
/-- cordwain/disk.part -/
def c38 (a0 a1 : HV) (s : HS) (Q : HV → HS → Prop) : Prop :=
  bindO (vLenT (Try.prog.underlying 24) s a0) fun x1 => bindO (vCmp (Try.prog.underlying 3) .eql x1 (.lit (.int .i64 0))) fun x2 => hcond x2 (Q (.tup [(.lit (.int .i64 0)), (.lit (.slice none 0 0))]) s) (bindO (vIdx 1 a0 (.lit (.int .i64 0))) fun x3 => bindO (vLoad s x3 1 false) fun x4 => bindO (vBin .add a1 (.lit (.int .i64 1))) fun x5 => bindO (vBin .rem x4 x5) fun x6 => Join (fun K7 => bindO (vBin .lss x6 (.lit (.int .i64 0))) fun x10 => hcond x10 (bindO (vBin .add a1 (.lit (.int .i64 1))) fun x11 => bindO (vBin .add x6 x11) fun x12 => K7 [x12] s) (K7 [x6] s)) (fun y8 s9 => bindO (vSlice 1 a0 (some (.lit (.int .i64 1))) none none) fun x13 => Q (.tup [(y8.headD .junk), x13]) s9))
theorem c38_eq (a0 a1 : HV) (s : HS) (Q : HV → HS → Prop) : (match Try.f38.body with | some c => hwp Try.prog (fun p => if p = 15 then some [6] else none) false 1 c (hretQ Try.prog Try.f38.results.toList Q) (([a0, a1] : List HV) ++ List.replicate (Try.f38.ntmps - 2) (.lit undef)) s | none => False) = c38 a0 a1 s Q := by kernel_rfl
theorem HC38 {a0 a1 : HV} {s : HS} {Q : HV → HS → Prop} (h : c38 a0 a1 s Q) : HC Try.prog 38 [a0, a1] s Q := HC_by Try.func38 (by have := c38_eq a0 a1 s Q; exact this.mpr h)
/-- (*cordwain/disk.Disk).Crash -/
def c16 (a0 a1 : HV) (s : HS) (Q : HV → HS → Prop) : Prop :=
  Join (fun K1 => bindO (vCmp (Try.prog.underlying 27) .eql a0 (.lit (.pointer none))) fun x4 => hcond x4 (K1 [(.lit (.bool true))] s) (bindO (vNil a0) fun x5 => bindO (vField 1 x5) fun x6 => bindO (vLoad s x6 1 false) fun x7 => bindO (vCmp (Try.prog.underlying 72) .eql x7 (.lit (.map none))) fun x8 => K1 [x8] s)) (fun y2 s3 => hcond (y2.headD .junk) (Q (.lit (.pointer none)) s3) (bindO (vNil a0) fun x9 => bindO (vField 3 x9) fun x10 => bindO (vLoad s3 x10 1 false) fun x11 => bindO (vLenT (Try.prog.underlying 73) s3 x11) fun x12 => HC Try.prog 38 [a1, x12] s3 (fun r13 s14 => bindO (vExtract r13 0) fun x15 => bindO (vExtract r13 1) fun x16 => bindO (vNil a0) fun x17 => bindO (vField 2 x17) fun x18 => bindO (vLoad s14 x18 1 false) fun x19 => HC Try.prog 37 [x19] s14 (fun r20 s21 => bindO (vNil a0) fun x22 => bindO (vField 3 x22) fun x23 => bindO (vLoad s21 x23 1 false) fun x24 => bindO (vSlice 3 x24 none (some x15) none) fun x25 => bindO (vLenT (Try.prog.underlying 73) s21 x25) fun x26 => HLoop (fun y28 s29 K27 => bindO (vBin .lss (y28.headD .junk) x26) fun x30 => hcond x30 (bindO (vIdx 3 x25 (y28.headD .junk)) fun x31 => bindO (vLoad s29 x31 3 true) fun x32 => hNew s29 (.cells [.lit (.string .empty), .lit (.string .empty), .lit (.pointer none)]) (fun id => .ptr id 0) (fun x33 s34 => hStore s34 x33 x32 3 (fun s35 => bindO (vLoad s35 x33 3 true) fun x36 => HC Try.prog 39 [r20, x36] s35 (fun r37 s38 => bindO (vBin .add (y28.headD .junk) (.lit (.int .i64 1))) fun x39 => K27 [x39] s38)))) (bindO (vNil a0) fun x40 => bindO (vField 0 x40) fun x41 => bindO (vLoad s29 x41 1 false) fun x42 => HC Try.prog 12 [x42] s29 (fun r43 s44 => bindO (vExtract r43 0) fun x45 => bindO (vExtract r43 1) fun x46 => HC Try.prog 41 [r20] s44 (fun r47 s48 => HC Try.prog 40 [r47] s48 (fun r49 s50 => bindO (vLenT (Try.prog.underlying 41) s50 r49) fun x51 => HLoop (fun y53 s54 K52 => bindO (vBin .lss (y53.tail.headD .junk) x51) fun x55 => hcond x55 (bindO (vIdx 1 r49 (y53.tail.headD .junk)) fun x56 => bindO (vLoad s54 x56 1 false) fun x57 => bindO (vLookup s54 (Try.prog.underlying 9) (.lit (.pointer none)) r20 x57 false) fun x58 => Join (fun K59 => bindO (vNil x58) fun x62 => bindO (vField 1 x62) fun x63 => bindO (vLoad s54 x63 1 false) fun x64 => bindO (vNil x58) fun x65 => bindO (vField 0 x65) fun x66 => bindO (vLoad s54 x66 1 false) fun x67 => bindO (vLenT (Try.prog.underlying 22) s54 x67) fun x68 => bindO (vBin .lss x64 x68) fun x69 => hcond x69 (bindO (vNil x58) fun x70 => bindO (vField 0 x70) fun x71 => bindO (vLoad s54 x71 1 false) fun x72 => bindO (vLenT (Try.prog.underlying 22) s54 x72) fun x73 => bindO (vNil x58) fun x74 => bindO (vField 1 x74) fun x75 => bindO (vLoad s54 x75 1 false) fun x76 => bindO (vBin .sub x73 x76) fun x77 => HC Try.prog 38 [(y53.headD .junk), x77] s54 (fun r78 s79 => bindO (vExtract r78 0) fun x80 => bindO (vExtract r78 1) fun x81 => K59 [x81, x80] s79)) (K59 [(y53.headD .junk), (.lit (.int .i64 0))] s54)) (fun y60 s61 => bindO (vNil x58) fun x82 => bindO (vField 1 x82) fun x83 => bindO (vLoad s61 x83 1 false) fun x84 => bindO (vBin .add (y60.tail.headD .junk) x84) fun x85 => bindO (vNil x45) fun x86 => bindO (vField 1 x86) fun x87 => bindO (vLoad s61 x87 1 false) fun x88 => bindO (vNil x58) fun x89 => bindO (vField 0 x89) fun x90 => bindO (vLoad s61 x90 1 false) fun x91 => bindO (vSlice 1 x91 none (some x85) none) fun x92 => HC Try.prog 42 [x92] s61 (fun r93 s94 => (vLoad s94 x87 1 false = vLoad s61 x87 1 false ∧ bindO (vMk [(0, 1), (1, 1)] [.lit (.slice none 0 0), .lit (.int .i64 0)] [(0, r93), (1, x85)]) fun x95 => hBox s94 x95 (fun x96 s97 => (vLoad s97 x87 1 false = vLoad s94 x87 1 false ∧ hMapSet s97 (Try.prog.underlying 9) x88 x57 x96 (fun s98 => bindO (vBin .add (y53.tail.headD .junk) (.lit (.int .i64 1))) fun x99 => K52 [(y60.headD .junk), x99] s98))))))) (bindO (vNil x45) fun x100 => bindO (vField 1 x100) fun x101 => bindO (vLoad s54 x101 1 false) fun x102 => HC Try.prog 37 [x102] s54 (fun r103 s104 => bindO (vNil x45) fun x105 => bindO (vField 2 x105) fun x106 => hStore s104 x106 r103 1 (fun s107 => Q x45 s107)))) [x16, (.lit (.int .i64 0))] s50))))) [(.lit (.int .i64 0))] s21))))
theorem c16_eq (a0 a1 : HV) (s : HS) (Q : HV → HS → Prop) : (match Try.f16.body with | some c => hwp Try.prog (fun p => if p = 6 then some [23] else if p = 250 then some [46] else if p = 1018 then some [1, 66] else if p = 260711 then some [1, 14] else none) false 1 c (hretQ Try.prog Try.f16.results.toList Q) (([a0, a1] : List HV) ++ List.replicate (Try.f16.ntmps - 2) (.lit undef)) s | none => False) = c16 a0 a1 s Q := by kernel_rfl
theorem HC16 {a0 a1 : HV} {s : HS} {Q : HV → HS → Prop} (h : c16 a0 a1 s Q) : HC Try.prog 16 [a0, a1] s Q := HC_by Try.func16 (by have := c16_eq a0 a1 s Q; exact this.mpr h)
/-- cordwain/cordwainref4.New -/
def c28 (a0 : HV) (s : HS) (Q : HV → HS → Prop) : Prop :=
  Join (fun K1 => bindO (vBin .lss a0 (.lit (.int .i64 0))) fun x4 => hcond x4 (K1 [(.lit (.bool true))] s) (bindO (vBin .gtr a0 (.lit (.int .i64 1099511627776))) fun x5 => K1 [x5] s)) (fun y2 s3 => hcond (y2.headD .junk) (Q (.tup [(.lit (.pointer none)), (.lit (.int .i64 1))]) s3) (bindO (vMk [(0, 1), (1, 1), (2, 1), (3, 1), (4, 1), (5, 1), (6, 1), (7, 1)] [.lit (.int .i64 0), .lit (.slice none 0 0), .lit (.slice none 0 0), .lit (.slice none 0 0), .lit (.slice none 0 0), .lit (.int .i64 0), .lit (.bool false), .lit (.int .i64 0)] [(0, a0), (5, (.lit (.int .i64 (-1))))]) fun x6 => hBox s3 x6 (fun x7 s8 => Q (.tup [x7, (.lit (.int .i64 0))]) s8)))
theorem c28_eq (a0 : HV) (s : HS) (Q : HV → HS → Prop) : (match Try.f28.body with | some c => hwp Try.prog (fun p => if p = 6 then some [9] else none) false 1 c (hretQ Try.prog Try.f28.results.toList Q) (([a0] : List HV) ++ List.replicate (Try.f28.ntmps - 1) (.lit undef)) s | none => False) = c28 a0 s Q := by kernel_rfl
theorem HC28 {a0 : HV} {s : HS} {Q : HV → HS → Prop} (h : c28 a0 s Q) : HC Try.prog 28 [a0] s Q := HC_by Try.func28 (by have := c28_eq a0 s Q; exact this.mpr h)
/-- cordwain/cordwainref4.find -/
def c52 (a0 a1 : HV) (s : HS) (Q : HV → HS → Prop) : Prop :=
  HLoop (fun y2 s3 K1 => bindO (vLenT (Try.prog.underlying 65) s3 a0) fun x4 => bindO (vBin .lss (y2.headD .junk) x4) fun x5 => hcond x5 (bindO (vIdx 2 a0 (y2.headD .junk)) fun x6 => bindO (vField 0 x6) fun x7 => bindO (vLoad s3 x7 1 false) fun x8 => bindO (vCmp (Try.prog.underlying 9) .eql x8 a1) fun x9 => hcond x9 (Q (y2.headD .junk) s3) (bindO (vBin .add (y2.headD .junk) (.lit (.int .i64 1))) fun x10 => K1 [x10] s3)) (Q (.lit (.int .i64 (-1))) s3)) [(.lit (.int .i64 0))] s
theorem c52_eq (a0 a1 : HV) (s : HS) (Q : HV → HS → Prop) : (match Try.f52.body with | some c => hwp Try.prog (fun p => if p = 26 then some [5] else none) false 1 c (hretQ Try.prog Try.f52.results.toList Q) (([a0, a1] : List HV) ++ List.replicate (Try.f52.ntmps - 2) (.lit undef)) s | none => False) = c52 a0 a1 s Q := by kernel_rfl
theorem HC52 {a0 a1 : HV} {s : HS} {Q : HV → HS → Prop} (h : c52 a0 a1 s Q) : HC Try.prog 52 [a0, a1] s Q := HC_by Try.func52 (by have := c52_eq a0 a1 s Q; exact this.mpr h)
/-- cordwain/cordwainref4.without -/
def c66 (a0 a1 : HV) (s : HS) (Q : HV → HS → Prop) : Prop :=
  HLoop (fun y2 s3 K1 => bindO (vLenT (Try.prog.underlying 65) s3 a0) fun x4 => bindO (vBin .lss (y2.tail.headD .junk) x4) fun x5 => hcond x5 (Join (fun K6 => bindO (vIdx 2 a0 (y2.tail.headD .junk)) fun x9 => bindO (vField 0 x9) fun x10 => bindO (vLoad s3 x10 1 false) fun x11 => bindO (vCmp (Try.prog.underlying 9) .neq x11 a1) fun x12 => hcond x12 (bindO (vIdx 2 a0 (y2.tail.headD .junk)) fun x13 => bindO (vLoad s3 x13 2 true) fun x14 => hBS s3 2 1 [.lit (.string .empty), .lit (.int .i64 0)] [(0, x14)] (fun x15 s16 => hAppend s16 2 24 (y2.headD .junk) x15 (fun x17 s18 => K6 [x17] s18))) (K6 [(y2.headD .junk)] s3)) (fun y7 s8 => bindO (vBin .add (y2.tail.headD .junk) (.lit (.int .i64 1))) fun x19 => K1 [(y7.headD .junk), x19] s8)) (Q (y2.headD .junk) s3)) [(.lit (.slice none 0 0)), (.lit (.int .i64 0))] s
theorem c66_eq (a0 a1 : HV) (s : HS) (Q : HV → HS → Prop) : (match Try.f66.body with | some c => hwp Try.prog (fun p => if p = 58 then some [5, 6] else if p = 233 then some [5] else none) false 1 c (hretQ Try.prog Try.f66.results.toList Q) (([a0, a1] : List HV) ++ List.replicate (Try.f66.ntmps - 2) (.lit undef)) s | none => False) = c66 a0 a1 s Q := by kernel_rfl
theorem HC66 {a0 a1 : HV} {s : HS} {Q : HV → HS → Prop} (h : c66 a0 a1 s Q) : HC Try.prog 66 [a0, a1] s Q := HC_by Try.func66 (by have := c66_eq a0 a1 s Q; exact this.mpr h)
/-- cordwain/cordwainref4.with -/
def c65 (a0 a1 a2 : HV) (s : HS) (Q : HV → HS → Prop) : Prop :=
  HC Try.prog 66 [a0, a1] s (fun r1 s2 => bindO (vLenT (Try.prog.underlying 65) s2 r1) fun x3 => HLoop (fun y5 s6 K4 => Join (fun K7 => bindO (vBin .gtr (y5.headD .junk) (.lit (.int .i64 0))) fun x10 => hcond x10 (bindO (vBin .sub (y5.headD .junk) (.lit (.int .i64 1))) fun x11 => bindO (vIdx 2 r1 x11) fun x12 => bindO (vField 0 x12) fun x13 => bindO (vLoad s6 x13 1 false) fun x14 => bindO (vBin .gtr x14 a1) fun x15 => K7 [x15] s6) (K7 [(.lit (.bool false))] s6)) (fun y8 s9 => hcond (y8.headD .junk) (bindO (vBin .sub (y5.headD .junk) (.lit (.int .i64 1))) fun x16 => K4 [x16] s9) (bindO (vSlice 2 r1 none (some (y5.headD .junk)) none) fun x17 => bindO (vMk [(0, 1), (1, 1)] [.lit (.string .empty), .lit (.int .i64 0)] [(0, a1), (1, a2)]) fun x18 => bindO (vSlice 2 r1 (some (y5.headD .junk)) none none) fun x19 => ((hBS s9 2 0 [] [] (fun x20 s21 => ((hAppend s21 2 24 x20 x17 (fun x22 s23 => hBS s23 2 1 [.lit (.string .empty), .lit (.int .i64 0)] [(0, x18)] (fun x24 s25 => hAppend s25 2 24 x22 x24 (fun x26 s27 => hAppend s27 2 24 x26 x19 (fun x28 s29 => Q x28 s29))))) ∧ (hBS s21 2 1 [.lit (.string .empty), .lit (.int .i64 0)] [(0, x18)] (fun x30 s31 => hAppend s31 2 24 x20 x17 (fun x32 s33 => hAppend s33 2 24 x32 x30 (fun x34 s35 => hAppend s35 2 24 x34 x19 (fun x36 s37 => Q x36 s37)))))))) ∧ (hBS s9 2 1 [.lit (.string .empty), .lit (.int .i64 0)] [(0, x18)] (fun x38 s39 => hBS s39 2 0 [] [] (fun x40 s41 => hAppend s41 2 24 x40 x17 (fun x42 s43 => hAppend s43 2 24 x42 x38 (fun x44 s45 => hAppend s45 2 24 x44 x19 (fun x46 s47 => Q x46 s47)))))))))) [x3] s2)
theorem c65_eq (a0 a1 a2 : HV) (s : HS) (Q : HV → HS → Prop) : (match Try.f65.body with | some c => hwp Try.prog (fun p => if p = 60 then some [7] else if p = 240 then some [24] else none) false 1 c (hretQ Try.prog Try.f65.results.toList Q) (([a0, a1, a2] : List HV) ++ List.replicate (Try.f65.ntmps - 3) (.lit undef)) s | none => False) = c65 a0 a1 a2 s Q := by kernel_rfl
theorem HC65 {a0 a1 a2 : HV} {s : HS} {Q : HV → HS → Prop} (h : c65 a0 a1 a2 s Q) : HC Try.prog 65 [a0, a1, a2] s Q := HC_by Try.func65 (by have := c65_eq a0 a1 a2 s Q; exact this.mpr h)
/-- cordwain/cordwainref4.apply -/
def c55 (a0 a1 : HV) (s : HS) (Q : HV → HS → Prop) : Prop :=
  hBox s a1 (fun x1 s2 => bindO (vField 0 x1) fun x3 => bindO (vLoad s2 x3 1 false) fun x4 => bindO (vCmp (Try.prog.underlying 3) .eql x4 (.lit (.int .i64 1))) fun x5 => hcond x5 (bindO (vField 1 x1) fun x6 => bindO (vLoad s2 x6 1 false) fun x7 => bindO (vField 3 x1) fun x8 => bindO (vLoad s2 x8 1 false) fun x9 => HC Try.prog 65 [a0, x7, x9] s2 (fun r10 s11 => Q r10 s11)) (bindO (vCmp (Try.prog.underlying 3) .eql x4 (.lit (.int .i64 2))) fun x12 => hcond x12 (bindO (vField 1 x1) fun x13 => bindO (vLoad s2 x13 1 false) fun x14 => bindO (vField 2 x1) fun x15 => bindO (vLoad s2 x15 1 false) fun x16 => bindO (vField 3 x1) fun x17 => bindO (vLoad s2 x17 1 false) fun x18 => HC Try.prog 66 [a0, x14] s2 (fun r19 s20 => (vLoad s20 x17 1 false = vLoad s2 x17 1 false ∧ (vLoad s20 x15 1 false = vLoad s2 x15 1 false ∧ HC Try.prog 65 [r19, x16, x18] s20 (fun r21 s22 => Q r21 s22))))) (bindO (vField 1 x1) fun x23 => bindO (vLoad s2 x23 1 false) fun x24 => HC Try.prog 66 [a0, x24] s2 (fun r25 s26 => Q r25 s26))))
theorem c55_eq (a0 a1 : HV) (s : HS) (Q : HV → HS → Prop) : (match Try.f55.body with | some c => hwp Try.prog (fun p => none) false 1 c (hretQ Try.prog Try.f55.results.toList Q) (([a0, a1] : List HV) ++ List.replicate (Try.f55.ntmps - 2) (.lit undef)) s | none => False) = c55 a0 a1 s Q := by kernel_rfl
theorem HC55 {a0 a1 : HV} {s : HS} {Q : HV → HS → Prop} (h : c55 a0 a1 s Q) : HC Try.prog 55 [a0, a1] s Q := HC_by Try.func55 (by have := c55_eq a0 a1 s Q; exact this.mpr h)
/-- (*cordwain/cordwainref4.Disk).act -/
def c61 (a0 a1 : HV) (s : HS) (Q : HV → HS → Prop) : Prop :=
  bindO (vNil a0) fun x1 => bindO (vField 7 x1) fun x2 => bindO (vLoad s x2 1 false) fun x3 => bindO (vBin .add x3 (.lit (.int .i64 1))) fun x4 => bindO (vNil a0) fun x5 => bindO (vField 7 x5) fun x6 => hStore s x6 x4 1 (fun s7 => Join (fun K8 => bindO (vNil a0) fun x11 => bindO (vField 6 x11) fun x12 => bindO (vLoad s7 x12 1 false) fun x13 => hcond x13 (K8 [(.lit (.bool true))] s7) (bindO (vNil a0) fun x14 => bindO (vField 5 x14) fun x15 => bindO (vLoad s7 x15 1 false) fun x16 => bindO (vCmp (Try.prog.underlying 3) .eql x16 (.lit (.int .i64 0))) fun x17 => K8 [x17] s7)) (fun y9 s10 => hcond (y9.headD .junk) (bindO (vNil a0) fun x18 => bindO (vField 6 x18) fun x19 => hStore s10 x19 (.lit (.bool true)) 1 (fun s20 => Q (.lit (.int .i64 7)) s20)) (Join (fun K21 => bindO (vNil a0) fun x24 => bindO (vField 5 x24) fun x25 => bindO (vLoad s10 x25 1 false) fun x26 => bindO (vBin .gtr x26 (.lit (.int .i64 0))) fun x27 => hcond x27 (bindO (vNil a0) fun x28 => bindO (vField 5 x28) fun x29 => bindO (vLoad s10 x29 1 false) fun x30 => bindO (vBin .sub x30 (.lit (.int .i64 1))) fun x31 => bindO (vNil a0) fun x32 => bindO (vField 5 x32) fun x33 => hStore s10 x33 x31 1 (fun s34 => K21 [] s34)) (K21 [] s10)) (fun y22 s23 => HLoop (fun y36 s37 K35 => bindO (vLenT (Try.prog.underlying 41) s37 a1) fun x38 => bindO (vBin .lss (y36.headD .junk) x38) fun x39 => hcond x39 (Join (fun K40 => bindO (vIdx 1 a1 (y36.headD .junk)) fun x43 => bindO (vLoad s37 x43 1 false) fun x44 => bindO (vLenT (Try.prog.underlying 9) s37 x44) fun x45 => bindO (vBin .lss x45 (.lit (.int .i64 1))) fun x46 => hcond x46 (K40 [(.lit (.bool true))] s37) (bindO (vIdx 1 a1 (y36.headD .junk)) fun x47 => bindO (vLoad s37 x47 1 false) fun x48 => bindO (vLenT (Try.prog.underlying 9) s37 x48) fun x49 => bindO (vBin .gtr x49 (.lit (.int .i64 100))) fun x50 => K40 [x50] s37)) (fun y41 s42 => hcond (y41.headD .junk) (Q (.lit (.int .i64 1)) s42) (bindO (vBin .add (y36.headD .junk) (.lit (.int .i64 1))) fun x51 => K35 [x51] s42))) (Q (.lit (.int .i64 0)) s37)) [(.lit (.int .i64 0))] s23))))
theorem c61_eq (a0 a1 : HV) (s : HS) (Q : HV → HS → Prop) : (match Try.f61.body with | some c => hwp Try.prog (fun p => if p = 14 then some [23] else if p = 15 then some [] else if p = 250 then some [5] else if p = 4004 then some [58] else none) false 1 c (hretQ Try.prog Try.f61.results.toList Q) (([a0, a1] : List HV) ++ List.replicate (Try.f61.ntmps - 2) (.lit undef)) s | none => False) = c61 a0 a1 s Q := by kernel_rfl
theorem HC61 {a0 a1 : HV} {s : HS} {Q : HV → HS → Prop} (h : c61 a0 a1 s Q) : HC Try.prog 61 [a0, a1] s Q := HC_by Try.func61 (by have := c61_eq a0 a1 s Q; exact this.mpr h)
/-- (*cordwain/cordwainref4.Disk).names -/
def c62 (a0 a1 : HV) (s : HS) (Q : HV → HS → Prop) : Prop :=
  hBox s a1 (fun x1 s2 => bindO (vNil a0) fun x3 => bindO (vField 4 x3) fun x4 => bindO (vLoad s2 x4 1 false) fun x5 => bindO (vLoad s2 x1 4 true) fun x6 => ((hBS s2 4 0 [] [] (fun x7 s8 => (vLoad s8 x1 4 true = vLoad s2 x1 4 true ∧ (vLoad s8 x4 1 false = vLoad s2 x4 1 false ∧ ((hAppend s8 4 48 x7 x5 (fun x9 s10 => (vLoad s10 x1 4 true = vLoad s8 x1 4 true ∧ hBS s10 4 1 [.lit (.int .i64 0), .lit (.string .empty), .lit (.string .empty), .lit (.int .i64 0)] [(0, x6)] (fun x11 s12 => hAppend s12 4 48 x9 x11 (fun x13 s14 => bindO (vNil a0) fun x15 => bindO (vField 4 x15) fun x16 => hStore s14 x16 x13 1 (fun s17 => bindO (vNil a0) fun x18 => bindO (vField 2 x18) fun x19 => bindO (vLoad s17 x19 1 false) fun x20 => bindO (vLoad s17 x1 4 true) fun x21 => HC Try.prog 55 [x20, x21] s17 (fun r22 s23 => bindO (vNil a0) fun x24 => bindO (vField 2 x24) fun x25 => hStore s23 x25 r22 1 (fun s26 => Q (.tup []) s26)))))))) ∧ (hBS s8 4 1 [.lit (.int .i64 0), .lit (.string .empty), .lit (.string .empty), .lit (.int .i64 0)] [(0, x6)] (fun x27 s28 => (vLoad s28 x4 1 false = vLoad s8 x4 1 false ∧ hAppend s28 4 48 x7 x5 (fun x29 s30 => hAppend s30 4 48 x29 x27 (fun x31 s32 => bindO (vNil a0) fun x33 => bindO (vField 4 x33) fun x34 => hStore s32 x34 x31 1 (fun s35 => bindO (vNil a0) fun x36 => bindO (vField 2 x36) fun x37 => bindO (vLoad s35 x37 1 false) fun x38 => bindO (vLoad s35 x1 4 true) fun x39 => HC Try.prog 55 [x38, x39] s35 (fun r40 s41 => bindO (vNil a0) fun x42 => bindO (vField 2 x42) fun x43 => hStore s41 x43 r40 1 (fun s44 => Q (.tup []) s44))))))))))))) ∧ (hBS s2 4 1 [.lit (.int .i64 0), .lit (.string .empty), .lit (.string .empty), .lit (.int .i64 0)] [(0, x6)] (fun x45 s46 => (vLoad s46 x4 1 false = vLoad s2 x4 1 false ∧ hBS s46 4 0 [] [] (fun x47 s48 => (vLoad s48 x4 1 false = vLoad s46 x4 1 false ∧ hAppend s48 4 48 x47 x5 (fun x49 s50 => hAppend s50 4 48 x49 x45 (fun x51 s52 => bindO (vNil a0) fun x53 => bindO (vField 4 x53) fun x54 => hStore s52 x54 x51 1 (fun s55 => bindO (vNil a0) fun x56 => bindO (vField 2 x56) fun x57 => bindO (vLoad s55 x57 1 false) fun x58 => bindO (vLoad s55 x1 4 true) fun x59 => HC Try.prog 55 [x58, x59] s55 (fun r60 s61 => bindO (vNil a0) fun x62 => bindO (vField 2 x62) fun x63 => hStore s61 x63 r60 1 (fun s64 => Q (.tup []) s64))))))))))))
theorem c62_eq (a0 a1 : HV) (s : HS) (Q : HV → HS → Prop) : (match Try.f62.body with | some c => hwp Try.prog (fun p => none) false 1 c (hretQ Try.prog Try.f62.results.toList Q) (([a0, a1] : List HV) ++ List.replicate (Try.f62.ntmps - 2) (.lit undef)) s | none => False) = c62 a0 a1 s Q := by kernel_rfl
theorem HC62 {a0 a1 : HV} {s : HS} {Q : HV → HS → Prop} (h : c62 a0 a1 s Q) : HC Try.prog 62 [a0, a1] s Q := HC_by Try.func62 (by have := c62_eq a0 a1 s Q; exact this.mpr h)
/-- (*cordwain/cordwainref4.Disk).Used -/
def c51 (a0 : HV) (s : HS) (Q : HV → HS → Prop) : Prop :=
  HLoop (fun y2 s3 K1 => bindO (vNil a0) fun x4 => bindO (vField 2 x4) fun x5 => bindO (vLoad s3 x5 1 false) fun x6 => bindO (vLenT (Try.prog.underlying 65) s3 x6) fun x7 => bindO (vBin .lss (y2.tail.headD .junk) x7) fun x8 => hcond x8 (bindO (vNil a0) fun x9 => bindO (vField 1 x9) fun x10 => bindO (vLoad s3 x10 1 false) fun x11 => bindO (vNil a0) fun x12 => bindO (vField 2 x12) fun x13 => bindO (vLoad s3 x13 1 false) fun x14 => bindO (vIdx 2 x14 (y2.tail.headD .junk)) fun x15 => bindO (vField 1 x15) fun x16 => bindO (vLoad s3 x16 1 false) fun x17 => bindO (vIdx 2 x11 x17) fun x18 => bindO (vField 0 x18) fun x19 => bindO (vLoad s3 x19 1 false) fun x20 => bindO (vLenT (Try.prog.underlying 22) s3 x20) fun x21 => bindO (vBin .add (y2.headD .junk) x21) fun x22 => bindO (vBin .add (y2.tail.headD .junk) (.lit (.int .i64 1))) fun x23 => K1 [x22, x23] s3) (Q (y2.headD .junk) s3)) [(.lit (.int .i64 0)), (.lit (.int .i64 0))] s
theorem c51_eq (a0 : HV) (s : HS) (Q : HV → HS → Prop) : (match Try.f51.body with | some c => hwp Try.prog (fun p => if p = 58 then some [3, 4] else none) false 1 c (hretQ Try.prog Try.f51.results.toList Q) (([a0] : List HV) ++ List.replicate (Try.f51.ntmps - 1) (.lit undef)) s | none => False) = c51 a0 s Q := by kernel_rfl
theorem HC51 {a0 : HV} {s : HS} {Q : HV → HS → Prop} (h : c51 a0 s Q) : HC Try.prog 51 [a0] s Q := HC_by Try.func51 (by have := c51_eq a0 s Q; exact this.mpr h)
/-- (*cordwain/cordwainref4.Disk).set -/
def c63 (a0 a1 a2 a3 : HV) (s : HS) (Q : HV → HS → Prop) : Prop :=
  hBS s 2 0 [] [] (fun x1 s2 => bindO (vNil a0) fun x3 => bindO (vField 1 x3) fun x4 => bindO (vLoad s2 x4 1 false) fun x5 => hAppend s2 2 32 x1 x5 (fun x6 s7 => bindO (vNil a0) fun x8 => bindO (vField 1 x8) fun x9 => hStore s7 x9 x6 1 (fun s10 => bindO (vNil a0) fun x11 => bindO (vField 1 x11) fun x12 => bindO (vLoad s10 x12 1 false) fun x13 => bindO (vMk [(0, 1), (1, 1)] [.lit (.slice none 0 0), .lit (.int .i64 0)] [(0, a2), (1, a3)]) fun x14 => bindO (vIdx 2 x13 a1) fun x15 => hStore s10 x15 x14 2 (fun s16 => Q (.tup []) s16))))
theorem c63_eq (a0 a1 a2 a3 : HV) (s : HS) (Q : HV → HS → Prop) : (match Try.f63.body with | some c => hwp Try.prog (fun p => none) false 1 c (hretQ Try.prog Try.f63.results.toList Q) (([a0, a1, a2, a3] : List HV) ++ List.replicate (Try.f63.ntmps - 4) (.lit undef)) s | none => False) = c63 a0 a1 a2 a3 s Q := by kernel_rfl
theorem HC63 {a0 a1 a2 a3 : HV} {s : HS} {Q : HV → HS → Prop} (h : c63 a0 a1 a2 a3 s Q) : HC Try.prog 63 [a0, a1, a2, a3] s Q := HC_by Try.func63 (by have := c63_eq a0 a1 a2 a3 s Q; exact this.mpr h)
/-- (*cordwain/cordwainref4.Disk).Append -/
def c43 (a0 a1 a2 : HV) (s : HS) (Q : HV → HS → Prop) : Prop :=
  hBS s 1 1 [.lit (.string .empty)] [(0, a1)] (fun x1 s2 => HC Try.prog 61 [a0, x1] s2 (fun r3 s4 => bindO (vCmp (Try.prog.underlying 3) .neq r3 (.lit (.int .i64 0))) fun x5 => hcond x5 (Q r3 s4) (bindO (vLenT (Try.prog.underlying 22) s4 a2) fun x6 => bindO (vNil a0) fun x7 => bindO (vField 0 x7) fun x8 => bindO (vLoad s4 x8 1 false) fun x9 => HC Try.prog 51 [a0] s4 (fun r10 s11 => (vLoad s11 x8 1 false = vLoad s4 x8 1 false ∧ (vLenT (Try.prog.underlying 22) s11 a2 = vLenT (Try.prog.underlying 22) s4 a2 ∧ bindO (vBin .add r10 x6) fun x12 => bindO (vBin .gtr x12 x9) fun x13 => hcond x13 (Q (.lit (.int .i64 4)) s11) (bindO (vNil a0) fun x14 => bindO (vField 2 x14) fun x15 => bindO (vLoad s11 x15 1 false) fun x16 => HC Try.prog 52 [x16, a1] s11 (fun r17 s18 => Join (fun K19 => bindO (vBin .lss r17 (.lit (.int .i64 0))) fun x22 => hcond x22 (hBS s18 2 0 [] [] (fun x23 s24 => bindO (vNil a0) fun x25 => bindO (vField 1 x25) fun x26 => bindO (vLoad s24 x26 1 false) fun x27 => hAppend s24 2 32 x23 x27 (fun x28 s29 => hBS s29 2 1 [.lit (.slice none 0 0), .lit (.int .i64 0)] [(0, (.agg [.lit (.slice none 0 0), .lit (.int .i64 0)]))] (fun x30 s31 => hAppend s31 2 32 x28 x30 (fun x32 s33 => bindO (vNil a0) fun x34 => bindO (vField 1 x34) fun x35 => hStore s33 x35 x32 1 (fun s36 => bindO (vNil a0) fun x37 => bindO (vField 1 x37) fun x38 => bindO (vLoad s36 x38 1 false) fun x39 => bindO (vLenT (Try.prog.underlying 64) s36 x39) fun x40 => bindO (vBin .sub x40 (.lit (.int .i64 1))) fun x41 => bindO (vMk [(0, 1), (1, 1), (2, 1), (3, 1)] [.lit (.int .i64 0), .lit (.string .empty), .lit (.string .empty), .lit (.int .i64 0)] [(0, (.lit (.int .i64 1))), (1, a1), (3, x41)]) fun x42 => HC Try.prog 62 [a0, x42] s36 (fun r43 s44 => bindO (vNil a0) fun x45 => bindO (vField 2 x45) fun x46 => bindO (vLoad s44 x46 1 false) fun x47 => HC Try.prog 52 [x47, a1] s44 (fun r48 s49 => K19 [r48] s49)))))))) (K19 [r17] s18)) (fun y20 s21 => bindO (vNil a0) fun x50 => bindO (vField 2 x50) fun x51 => bindO (vLoad s21 x51 1 false) fun x52 => bindO (vIdx 2 x52 (y20.headD .junk)) fun x53 => bindO (vField 1 x53) fun x54 => bindO (vLoad s21 x54 1 false) fun x55 => bindO (vNil a0) fun x56 => bindO (vField 1 x56) fun x57 => bindO (vLoad s21 x57 1 false) fun x58 => bindO (vIdx 2 x58 x55) fun x59 => bindO (vLoad s21 x59 2 true) fun x60 => hNew s21 (.cells [.lit (.slice none 0 0), .lit (.int .i64 0)]) (fun id => .ptr id 0) (fun x61 s62 => hStore s62 x61 x60 2 (fun s63 => bindO (vField 0 x61) fun x64 => bindO (vLoad s63 x64 1 false) fun x65 => bindO (vField 1 x61) fun x66 => bindO (vLoad s63 x66 1 false) fun x67 => hBS s63 1 0 [] [] (fun x68 s69 => (vLoad s69 x66 1 false = vLoad s63 x66 1 false ∧ (vLoad s69 x64 1 false = vLoad s63 x64 1 false ∧ hAppend s69 1 1 x68 x65 (fun x70 s71 => (vLoad s71 x66 1 false = vLoad s69 x66 1 false ∧ hAppend s71 1 1 x70 a2 (fun x72 s73 => (vLoad s73 x66 1 false = vLoad s71 x66 1 false ∧ HC Try.prog 63 [a0, x55, x72, x67] s73 (fun r74 s75 => Q (.lit (.int .i64 0)) s75)))))))))))))))))))
theorem c43_eq (a0 a1 a2 : HV) (s : HS) (Q : HV → HS → Prop) : (match Try.f43.body with | some c => hwp Try.prog (fun p => if p = 63 then some [8] else none) false 1 c (hretQ Try.prog Try.f43.results.toList Q) (([a0, a1, a2] : List HV) ++ List.replicate (Try.f43.ntmps - 3) (.lit undef)) s | none => False) = c43 a0 a1 a2 s Q := by kernel_rfl
theorem HC43 {a0 a1 a2 : HV} {s : HS} {Q : HV → HS → Prop} (h : c43 a0 a1 a2 s Q) : HC Try.prog 43 [a0, a1, a2] s Q := HC_by Try.func43 (by have := c43_eq a0 a1 a2 s Q; exact this.mpr h)
/-- (*cordwain/cordwainref4.Disk).Truncate -/
def c44 (a0 a1 a2 : HV) (s : HS) (Q : HV → HS → Prop) : Prop :=
  hBS s 1 1 [.lit (.string .empty)] [(0, a1)] (fun x1 s2 => HC Try.prog 61 [a0, x1] s2 (fun r3 s4 => bindO (vCmp (Try.prog.underlying 3) .neq r3 (.lit (.int .i64 0))) fun x5 => hcond x5 (Q r3 s4) (bindO (vNil a0) fun x6 => bindO (vField 2 x6) fun x7 => bindO (vLoad s4 x7 1 false) fun x8 => HC Try.prog 52 [x8, a1] s4 (fun r9 s10 => bindO (vBin .lss r9 (.lit (.int .i64 0))) fun x11 => hcond x11 (Q (.lit (.int .i64 5)) s10) (bindO (vNil a0) fun x12 => bindO (vField 1 x12) fun x13 => bindO (vLoad s10 x13 1 false) fun x14 => bindO (vNil a0) fun x15 => bindO (vField 2 x15) fun x16 => bindO (vLoad s10 x16 1 false) fun x17 => bindO (vIdx 2 x17 r9) fun x18 => bindO (vField 1 x18) fun x19 => bindO (vLoad s10 x19 1 false) fun x20 => bindO (vIdx 2 x14 x20) fun x21 => bindO (vLoad s10 x21 2 true) fun x22 => hNew s10 (.cells [.lit (.slice none 0 0), .lit (.int .i64 0)]) (fun id => .ptr id 0) (fun x23 s24 => (vLoad s24 x21 2 true = vLoad s10 x21 2 true ∧ (vLoad s24 x19 1 false = vLoad s10 x19 1 false ∧ (vLoad s24 x16 1 false = vLoad s10 x16 1 false ∧ (vLoad s24 x13 1 false = vLoad s10 x13 1 false ∧ hStore s24 x23 x22 2 (fun s25 => Join (fun K26 => bindO (vBin .lss a2 (.lit (.int .i64 0))) fun x29 => hcond x29 (K26 [(.lit (.bool true))] s25) (bindO (vField 0 x23) fun x30 => bindO (vLoad s25 x30 1 false) fun x31 => bindO (vLenT (Try.prog.underlying 22) s25 x31) fun x32 => bindO (vBin .gtr a2 x32) fun x33 => K26 [x33] s25)) (fun y27 s28 => hcond (y27.headD .junk) (Q (.lit (.int .i64 1)) s28) (bindO (vNil a0) fun x34 => bindO (vField 2 x34) fun x35 => bindO (vLoad s28 x35 1 false) fun x36 => bindO (vIdx 2 x36 r9) fun x37 => bindO (vField 1 x37) fun x38 => bindO (vLoad s28 x38 1 false) fun x39 => bindO (vField 0 x23) fun x40 => bindO (vLoad s28 x40 1 false) fun x41 => bindO (vSlice 1 x41 none (some a2) none) fun x42 => hBS s28 1 0 [] [] (fun x43 s44 => (vLoad s44 x40 1 false = vLoad s28 x40 1 false ∧ (vLoad s44 x38 1 false = vLoad s28 x38 1 false ∧ (vLoad s44 x35 1 false = vLoad s28 x35 1 false ∧ hAppend s44 1 1 x43 x42 (fun x45 s46 => (vLoad s46 x38 1 false = vLoad s44 x38 1 false ∧ (vLoad s46 x35 1 false = vLoad s44 x35 1 false ∧ HC Try.prog 63 [a0, x39, x45, a2] s46 (fun r47 s48 => Q (.lit (.int .i64 0)) s48)))))))))))))))))))))
theorem c44_eq (a0 a1 a2 : HV) (s : HS) (Q : HV → HS → Prop) : (match Try.f44.body with | some c => hwp Try.prog (fun p => if p = 254 then some [47] else none) false 1 c (hretQ Try.prog Try.f44.results.toList Q) (([a0, a1, a2] : List HV) ++ List.replicate (Try.f44.ntmps - 3) (.lit undef)) s | none => False) = c44 a0 a1 a2 s Q := by kernel_rfl
theorem HC44 {a0 a1 a2 : HV} {s : HS} {Q : HV → HS → Prop} (h : c44 a0 a1 a2 s Q) : HC Try.prog 44 [a0, a1, a2] s Q := HC_by Try.func44 (by have := c44_eq a0 a1 a2 s Q; exact this.mpr h)
/-- (*cordwain/cordwainref4.Disk).Sync -/
def c45 (a0 a1 : HV) (s : HS) (Q : HV → HS → Prop) : Prop :=
  hBS s 1 1 [.lit (.string .empty)] [(0, a1)] (fun x1 s2 => HC Try.prog 61 [a0, x1] s2 (fun r3 s4 => bindO (vCmp (Try.prog.underlying 3) .neq r3 (.lit (.int .i64 0))) fun x5 => hcond x5 (Q r3 s4) (bindO (vNil a0) fun x6 => bindO (vField 2 x6) fun x7 => bindO (vLoad s4 x7 1 false) fun x8 => HC Try.prog 52 [x8, a1] s4 (fun r9 s10 => bindO (vBin .lss r9 (.lit (.int .i64 0))) fun x11 => hcond x11 (Q (.lit (.int .i64 5)) s10) (bindO (vNil a0) fun x12 => bindO (vField 1 x12) fun x13 => bindO (vLoad s10 x13 1 false) fun x14 => bindO (vNil a0) fun x15 => bindO (vField 2 x15) fun x16 => bindO (vLoad s10 x16 1 false) fun x17 => bindO (vIdx 2 x17 r9) fun x18 => bindO (vField 1 x18) fun x19 => bindO (vLoad s10 x19 1 false) fun x20 => bindO (vIdx 2 x14 x20) fun x21 => bindO (vLoad s10 x21 2 true) fun x22 => hNew s10 (.cells [.lit (.slice none 0 0), .lit (.int .i64 0)]) (fun id => .ptr id 0) (fun x23 s24 => (vLoad s24 x21 2 true = vLoad s10 x21 2 true ∧ (vLoad s24 x19 1 false = vLoad s10 x19 1 false ∧ (vLoad s24 x16 1 false = vLoad s10 x16 1 false ∧ (vLoad s24 x13 1 false = vLoad s10 x13 1 false ∧ hStore s24 x23 x22 2 (fun s25 => bindO (vNil a0) fun x26 => bindO (vField 2 x26) fun x27 => bindO (vLoad s25 x27 1 false) fun x28 => bindO (vIdx 2 x28 r9) fun x29 => bindO (vField 1 x29) fun x30 => bindO (vLoad s25 x30 1 false) fun x31 => bindO (vField 0 x23) fun x32 => bindO (vLoad s25 x32 1 false) fun x33 => bindO (vField 0 x23) fun x34 => bindO (vLoad s25 x34 1 false) fun x35 => bindO (vLenT (Try.prog.underlying 22) s25 x35) fun x36 => HC Try.prog 63 [a0, x31, x33, x36] s25 (fun r37 s38 => Q (.lit (.int .i64 0)) s38))))))))))))
theorem c45_eq (a0 a1 : HV) (s : HS) (Q : HV → HS → Prop) : (match Try.f45.body with | some c => hwp Try.prog (fun p => none) false 1 c (hretQ Try.prog Try.f45.results.toList Q) (([a0, a1] : List HV) ++ List.replicate (Try.f45.ntmps - 2) (.lit undef)) s | none => False) = c45 a0 a1 s Q := by kernel_rfl
theorem HC45 {a0 a1 : HV} {s : HS} {Q : HV → HS → Prop} (h : c45 a0 a1 s Q) : HC Try.prog 45 [a0, a1] s Q := HC_by Try.func45 (by have := c45_eq a0 a1 s Q; exact this.mpr h)
/-- (*cordwain/cordwainref4.Disk).Rename -/
def c46 (a0 a1 a2 : HV) (s : HS) (Q : HV → HS → Prop) : Prop :=
  hBS s 1 2 [.lit (.string .empty), .lit (.string .empty)] [(0, a1), (1, a2)] (fun x1 s2 => HC Try.prog 61 [a0, x1] s2 (fun r3 s4 => bindO (vCmp (Try.prog.underlying 3) .neq r3 (.lit (.int .i64 0))) fun x5 => hcond x5 (Q r3 s4) (bindO (vNil a0) fun x6 => bindO (vField 2 x6) fun x7 => bindO (vLoad s4 x7 1 false) fun x8 => HC Try.prog 52 [x8, a1] s4 (fun r9 s10 => bindO (vBin .lss r9 (.lit (.int .i64 0))) fun x11 => hcond x11 (Q (.lit (.int .i64 5)) s10) (bindO (vCmp (Try.prog.underlying 9) .eql a1 a2) fun x12 => hcond x12 (Q (.lit (.int .i64 1)) s10) (bindO (vNil a0) fun x13 => bindO (vField 2 x13) fun x14 => bindO (vLoad s10 x14 1 false) fun x15 => bindO (vIdx 2 x15 r9) fun x16 => bindO (vField 1 x16) fun x17 => bindO (vLoad s10 x17 1 false) fun x18 => bindO (vMk [(0, 1), (1, 1), (2, 1), (3, 1)] [.lit (.int .i64 0), .lit (.string .empty), .lit (.string .empty), .lit (.int .i64 0)] [(0, (.lit (.int .i64 2))), (1, a1), (2, a2), (3, x18)]) fun x19 => HC Try.prog 62 [a0, x19] s10 (fun r20 s21 => Q (.lit (.int .i64 0)) s21)))))))
theorem c46_eq (a0 a1 a2 : HV) (s : HS) (Q : HV → HS → Prop) : (match Try.f46.body with | some c => hwp Try.prog (fun p => none) false 1 c (hretQ Try.prog Try.f46.results.toList Q) (([a0, a1, a2] : List HV) ++ List.replicate (Try.f46.ntmps - 3) (.lit undef)) s | none => False) = c46 a0 a1 a2 s Q := by kernel_rfl
theorem HC46 {a0 a1 a2 : HV} {s : HS} {Q : HV → HS → Prop} (h : c46 a0 a1 a2 s Q) : HC Try.prog 46 [a0, a1, a2] s Q := HC_by Try.func46 (by have := c46_eq a0 a1 a2 s Q; exact this.mpr h)
/-- (*cordwain/cordwainref4.Disk).Remove -/
def c47 (a0 a1 : HV) (s : HS) (Q : HV → HS → Prop) : Prop :=
  hBS s 1 1 [.lit (.string .empty)] [(0, a1)] (fun x1 s2 => HC Try.prog 61 [a0, x1] s2 (fun r3 s4 => bindO (vCmp (Try.prog.underlying 3) .neq r3 (.lit (.int .i64 0))) fun x5 => hcond x5 (Q r3 s4) (bindO (vNil a0) fun x6 => bindO (vField 2 x6) fun x7 => bindO (vLoad s4 x7 1 false) fun x8 => HC Try.prog 52 [x8, a1] s4 (fun r9 s10 => bindO (vBin .lss r9 (.lit (.int .i64 0))) fun x11 => hcond x11 (Q (.lit (.int .i64 5)) s10) (bindO (vMk [(0, 1), (1, 1), (2, 1), (3, 1)] [.lit (.int .i64 0), .lit (.string .empty), .lit (.string .empty), .lit (.int .i64 0)] [(0, (.lit (.int .i64 3))), (1, a1)]) fun x12 => HC Try.prog 62 [a0, x12] s10 (fun r13 s14 => Q (.lit (.int .i64 0)) s14))))))
theorem c47_eq (a0 a1 : HV) (s : HS) (Q : HV → HS → Prop) : (match Try.f47.body with | some c => hwp Try.prog (fun p => none) false 1 c (hretQ Try.prog Try.f47.results.toList Q) (([a0, a1] : List HV) ++ List.replicate (Try.f47.ntmps - 2) (.lit undef)) s | none => False) = c47 a0 a1 s Q := by kernel_rfl
theorem HC47 {a0 a1 : HV} {s : HS} {Q : HV → HS → Prop} (h : c47 a0 a1 s Q) : HC Try.prog 47 [a0, a1] s Q := HC_by Try.func47 (by have := c47_eq a0 a1 s Q; exact this.mpr h)
/-- (*cordwain/cordwainref4.Disk).SyncDir -/
def c48 (a0 : HV) (s : HS) (Q : HV → HS → Prop) : Prop :=
  HC Try.prog 61 [a0, (.lit (.slice none 0 0))] s (fun r1 s2 => bindO (vCmp (Try.prog.underlying 3) .neq r1 (.lit (.int .i64 0))) fun x3 => hcond x3 (Q r1 s2) (bindO (vNil a0) fun x4 => bindO (vField 2 x4) fun x5 => bindO (vLoad s2 x5 1 false) fun x6 => bindO (vNil a0) fun x7 => bindO (vField 3 x7) fun x8 => hStore s2 x8 x6 1 (fun s9 => bindO (vNil a0) fun x10 => bindO (vField 4 x10) fun x11 => hStore s9 x11 (.lit (.slice none 0 0)) 1 (fun s12 => Q (.lit (.int .i64 0)) s12))))
theorem c48_eq (a0 : HV) (s : HS) (Q : HV → HS → Prop) : (match Try.f48.body with | some c => hwp Try.prog (fun p => none) false 1 c (hretQ Try.prog Try.f48.results.toList Q) (([a0] : List HV) ++ List.replicate (Try.f48.ntmps - 1) (.lit undef)) s | none => False) = c48 a0 s Q := by kernel_rfl
theorem HC48 {a0 : HV} {s : HS} {Q : HV → HS → Prop} (h : c48 a0 s Q) : HC Try.prog 48 [a0] s Q := HC_by Try.func48 (by have := c48_eq a0 s Q; exact this.mpr h)
/-- (*cordwain/cordwainref4.Disk).Read -/
def c31 (a0 a1 : HV) (s : HS) (Q : HV → HS → Prop) : Prop :=
  bindO (vNil a0) fun x1 => bindO (vField 2 x1) fun x2 => bindO (vLoad s x2 1 false) fun x3 => HC Try.prog 52 [x3, a1] s (fun r4 s5 => bindO (vBin .lss r4 (.lit (.int .i64 0))) fun x6 => hcond x6 (Q (.tup [(.lit (.slice none 0 0)), (.lit (.int .i64 5))]) s5) (bindO (vNil a0) fun x7 => bindO (vField 1 x7) fun x8 => bindO (vLoad s5 x8 1 false) fun x9 => bindO (vNil a0) fun x10 => bindO (vField 2 x10) fun x11 => bindO (vLoad s5 x11 1 false) fun x12 => bindO (vIdx 2 x12 r4) fun x13 => bindO (vField 1 x13) fun x14 => bindO (vLoad s5 x14 1 false) fun x15 => bindO (vIdx 2 x9 x15) fun x16 => bindO (vField 0 x16) fun x17 => bindO (vLoad s5 x17 1 false) fun x18 => Q (.tup [x18, (.lit (.int .i64 0))]) s5))
theorem c31_eq (a0 a1 : HV) (s : HS) (Q : HV → HS → Prop) : (match Try.f31.body with | some c => hwp Try.prog (fun p => none) false 1 c (hretQ Try.prog Try.f31.results.toList Q) (([a0, a1] : List HV) ++ List.replicate (Try.f31.ntmps - 2) (.lit undef)) s | none => False) = c31 a0 a1 s Q := by kernel_rfl
theorem HC31 {a0 a1 : HV} {s : HS} {Q : HV → HS → Prop} (h : c31 a0 a1 s Q) : HC Try.prog 31 [a0, a1] s Q := HC_by Try.func31 (by have := c31_eq a0 a1 s Q; exact this.mpr h)
/-- (*cordwain/cordwainref4.Disk).Cut -/
def c49 (a0 a1 : HV) (s : HS) (Q : HV → HS → Prop) : Prop :=
  bindO (hfold vMax2 a1 [(.lit (.int .i64 0))]) fun x1 => bindO (vNil a0) fun x2 => bindO (vField 5 x2) fun x3 => hStore s x3 x1 1 (fun s4 => Q (.tup []) s4)
theorem c49_eq (a0 a1 : HV) (s : HS) (Q : HV → HS → Prop) : (match Try.f49.body with | some c => hwp Try.prog (fun p => none) false 1 c (hretQ Try.prog Try.f49.results.toList Q) (([a0, a1] : List HV) ++ List.replicate (Try.f49.ntmps - 2) (.lit undef)) s | none => False) = c49 a0 a1 s Q := by kernel_rfl
theorem HC49 {a0 a1 : HV} {s : HS} {Q : HV → HS → Prop} (h : c49 a0 a1 s Q) : HC Try.prog 49 [a0, a1] s Q := HC_by Try.func49 (by have := c49_eq a0 a1 s Q; exact this.mpr h)
/-- cordwain/cordwainref4.round -/
def c54 (a0 a1 a2 : HV) (s : HS) (Q : HV → HS → Prop) : Prop :=
  bindO (vLenT (Try.prog.underlying 24) s a0) fun x1 => bindO (vBin .geq a1 x1) fun x2 => hcond x2 (Q (.lit (.int .i64 0)) s) (bindO (vIdx 1 a0 a1) fun x3 => bindO (vLoad s x3 1 false) fun x4 => bindO (vBin .rem x4 a2) fun x5 => Join (fun K6 => bindO (vBin .lss x5 (.lit (.int .i64 0))) fun x9 => hcond x9 (bindO (vBin .add x5 a2) fun x10 => K6 [x10] s) (K6 [x5] s)) (fun y7 s8 => Q (y7.headD .junk) s8))
theorem c54_eq (a0 a1 a2 : HV) (s : HS) (Q : HV → HS → Prop) : (match Try.f54.body with | some c => hwp Try.prog (fun p => if p = 15 then some [7] else none) false 1 c (hretQ Try.prog Try.f54.results.toList Q) (([a0, a1, a2] : List HV) ++ List.replicate (Try.f54.ntmps - 3) (.lit undef)) s | none => False) = c54 a0 a1 a2 s Q := by kernel_rfl
theorem HC54 {a0 a1 a2 : HV} {s : HS} {Q : HV → HS → Prop} (h : c54 a0 a1 a2 s Q) : HC Try.prog 54 [a0, a1, a2] s Q := HC_by Try.func54 (by have := c54_eq a0 a1 a2 s Q; exact this.mpr h)
/-- (*cordwain/cordwainref4.Disk).Crash -/
def c33 (a0 a1 : HV) (s : HS) (Q : HV → HS → Prop) : Prop :=
  bindO (vNil a0) fun x1 => bindO (vField 0 x1) fun x2 => bindO (vLoad s x2 1 false) fun x3 => bindO (vMk [(0, 1), (1, 1), (2, 1), (3, 1), (4, 1), (5, 1), (6, 1), (7, 1)] [.lit (.int .i64 0), .lit (.slice none 0 0), .lit (.slice none 0 0), .lit (.slice none 0 0), .lit (.slice none 0 0), .lit (.int .i64 0), .lit (.bool false), .lit (.int .i64 0)] [(0, x3), (5, (.lit (.int .i64 (-1))))]) fun x4 => hBox s x4 (fun x5 s6 => bindO (vNil a0) fun x7 => bindO (vField 3 x7) fun x8 => bindO (vLoad s6 x8 1 false) fun x9 => bindO (vNil a0) fun x10 => bindO (vField 4 x10) fun x11 => bindO (vLoad s6 x11 1 false) fun x12 => bindO (vLenT (Try.prog.underlying 66) s6 x12) fun x13 => bindO (vBin .add x13 (.lit (.int .i64 1))) fun x14 => HC Try.prog 54 [a1, (.lit (.int .i64 0)), x14] s6 (fun r15 s16 => HLoop (fun y18 s19 K17 => bindO (vBin .lss (y18.tail.headD .junk) r15) fun x20 => hcond x20 (bindO (vNil a0) fun x21 => bindO (vField 4 x21) fun x22 => bindO (vLoad s19 x22 1 false) fun x23 => bindO (vIdx 4 x23 (y18.tail.headD .junk)) fun x24 => bindO (vLoad s19 x24 4 true) fun x25 => HC Try.prog 55 [(y18.headD .junk), x25] s19 (fun r26 s27 => bindO (vBin .add (y18.tail.headD .junk) (.lit (.int .i64 1))) fun x28 => K17 [r26, x28] s27)) (HLoop (fun y30 s31 K29 => bindO (vLenT (Try.prog.underlying 65) s31 (y18.headD .junk)) fun x32 => bindO (vBin .lss (y30.tail.headD .junk) x32) fun x33 => hcond x33 (bindO (vNil a0) fun x34 => bindO (vField 1 x34) fun x35 => bindO (vLoad s31 x35 1 false) fun x36 => bindO (vIdx 2 (y18.headD .junk) (y30.tail.headD .junk)) fun x37 => bindO (vField 1 x37) fun x38 => bindO (vLoad s31 x38 1 false) fun x39 => bindO (vIdx 2 x36 x39) fun x40 => bindO (vLoad s31 x40 2 true) fun x41 => hNew s31 (.cells [.lit (.slice none 0 0), .lit (.int .i64 0)]) (fun id => .ptr id 0) (fun x42 s43 => (vLoad s43 x40 2 true = vLoad s31 x40 2 true ∧ (vLoad s43 x38 1 false = vLoad s31 x38 1 false ∧ (vLoad s43 x35 1 false = vLoad s31 x35 1 false ∧ hStore s43 x42 x41 2 (fun s44 => bindO (vField 1 x42) fun x45 => bindO (vLoad s44 x45 1 false) fun x46 => Join (fun K47 => bindO (vField 0 x42) fun x50 => bindO (vLoad s44 x50 1 false) fun x51 => bindO (vLenT (Try.prog.underlying 22) s44 x51) fun x52 => bindO (vBin .lss x46 x52) fun x53 => hcond x53 (bindO (vField 0 x42) fun x54 => bindO (vLoad s44 x54 1 false) fun x55 => bindO (vLenT (Try.prog.underlying 22) s44 x55) fun x56 => bindO (vBin .sub x56 x46) fun x57 => bindO (vBin .add x57 (.lit (.int .i64 1))) fun x58 => HC Try.prog 54 [a1, (y30.headD .junk), x58] s44 (fun r59 s60 => bindO (vBin .add x46 r59) fun x61 => bindO (vBin .add (y30.headD .junk) (.lit (.int .i64 1))) fun x62 => K47 [x62, x61] s60)) (K47 [(y30.headD .junk), x46] s44)) (fun y48 s49 => bindO (vNil x5) fun x63 => bindO (vField 1 x63) fun x64 => bindO (vLoad s49 x64 1 false) fun x65 => bindO (vField 0 x42) fun x66 => bindO (vLoad s49 x66 1 false) fun x67 => bindO (vSlice 1 x67 none (some (y48.tail.headD .junk)) none) fun x68 => hBS s49 1 0 [] [] (fun x69 s70 => (vLoad s70 x66 1 false = vLoad s49 x66 1 false ∧ (vLoad s70 x64 1 false = vLoad s49 x64 1 false ∧ hAppend s70 1 1 x69 x68 (fun x71 s72 => (vLoad s72 x64 1 false = vLoad s70 x64 1 false ∧ bindO (vMk [(0, 1), (1, 1)] [.lit (.slice none 0 0), .lit (.int .i64 0)] [(0, x71), (1, (y48.tail.headD .junk))]) fun x73 => hBS s72 2 1 [.lit (.slice none 0 0), .lit (.int .i64 0)] [(0, x73)] (fun x74 s75 => (vLoad s75 x64 1 false = vLoad s72 x64 1 false ∧ hAppend s75 2 32 x65 x74 (fun x76 s77 => bindO (vNil x5) fun x78 => bindO (vField 1 x78) fun x79 => hStore s77 x79 x76 1 (fun s80 => bindO (vNil x5) fun x81 => bindO (vField 2 x81) fun x82 => bindO (vLoad s80 x82 1 false) fun x83 => bindO (vIdx 2 (y18.headD .junk) (y30.tail.headD .junk)) fun x84 => bindO (vField 0 x84) fun x85 => bindO (vLoad s80 x85 1 false) fun x86 => bindO (vNil x5) fun x87 => bindO (vField 1 x87) fun x88 => bindO (vLoad s80 x88 1 false) fun x89 => bindO (vLenT (Try.prog.underlying 64) s80 x89) fun x90 => bindO (vBin .sub x90 (.lit (.int .i64 1))) fun x91 => bindO (vMk [(0, 1), (1, 1)] [.lit (.string .empty), .lit (.int .i64 0)] [(0, x86), (1, x91)]) fun x92 => hBS s80 2 1 [.lit (.string .empty), .lit (.int .i64 0)] [(0, x92)] (fun x93 s94 => (vLoad s94 x82 1 false = vLoad s80 x82 1 false ∧ hAppend s94 2 24 x83 x93 (fun x95 s96 => bindO (vNil x5) fun x97 => bindO (vField 2 x97) fun x98 => hStore s96 x98 x95 1 (fun s99 => bindO (vBin .add (y30.tail.headD .junk) (.lit (.int .i64 1))) fun x100 => K29 [(y48.headD .junk), x100] s99)))))))))))))))))))) (bindO (vNil x5) fun x101 => bindO (vField 2 x101) fun x102 => bindO (vLoad s31 x102 1 false) fun x103 => bindO (vNil x5) fun x104 => bindO (vField 3 x104) fun x105 => hStore s31 x105 x103 1 (fun s106 => Q x5 s106))) [(.lit (.int .i64 1)), (.lit (.int .i64 0))] s19)) [x9, (.lit (.int .i64 0))] s16))
theorem c33_eq (a0 a1 : HV) (s : HS) (Q : HV → HS → Prop) : (match Try.f33.body with | some c => hwp Try.prog (fun p => if p = 250 then some [6, 8] else if p = 1018 then some [9, 10] else if p = 65171 then some [9, 12] else none) false 1 c (hretQ Try.prog Try.f33.results.toList Q) (([a0, a1] : List HV) ++ List.replicate (Try.f33.ntmps - 2) (.lit undef)) s | none => False) = c33 a0 a1 s Q := by kernel_rfl
theorem HC33 {a0 a1 : HV} {s : HS} {Q : HV → HS → Prop} (h : c33 a0 a1 s Q) : HC Try.prog 33 [a0, a1] s Q := HC_by Try.func33 (by have := c33_eq a0 a1 s Q; exact this.mpr h)
/-- (*cordwain/disk.Disk).All -/
def c53 (a0 : HV) (s : HS) (Q : HV → HS → Prop) : Prop :=
  hBox s a0 (fun x1 s2 => Q (.func (.func 64) [x1]) s2)
theorem c53_eq (a0 : HV) (s : HS) (Q : HV → HS → Prop) : (match Try.f53.body with | some c => hwp Try.prog (fun p => none) false 1 c (hretQ Try.prog Try.f53.results.toList Q) (([a0] : List HV) ++ List.replicate (Try.f53.ntmps - 1) (.lit undef)) s | none => False) = c53 a0 s Q := by kernel_rfl
theorem HC53 {a0 : HV} {s : HS} {Q : HV → HS → Prop} (h : c53 a0 s Q) : HC Try.prog 53 [a0] s Q := HC_by Try.func53 (by have := c53_eq a0 s Q; exact this.mpr h)
/-- (*cordwain/disk.Disk).All$1 -/
def c64 (a0 a1 : HV) (s : HS) (Q : HV → HS → Prop) : Prop :=
  bindO (vLoad s a1 1 false) fun x1 => HC Try.prog 20 [x1] s (fun r2 s3 => bindO (vLenT (Try.prog.underlying 41) s3 r2) fun x4 => HLoop (fun y6 s7 K5 => bindO (vBin .lss (y6.headD .junk) x4) fun x8 => hcond x8 (bindO (vIdx 1 r2 (y6.headD .junk)) fun x9 => bindO (vLoad s7 x9 1 false) fun x10 => bindO (vLoad s7 a1 1 false) fun x11 => HC Try.prog 19 [x11, x10] s7 (fun r12 s13 => hcall Try.prog a0 [x10, r12] s13 (fun r14 s15 => bindO (vUn .not r14) fun x16 => hcond x16 (Q (.tup []) s15) (bindO (vBin .add (y6.headD .junk) (.lit (.int .i64 1))) fun x17 => K5 [x17] s15)))) (Q (.tup []) s7)) [(.lit (.int .i64 0))] s3)
theorem c64_eq (a0 a1 : HV) (s : HS) (Q : HV → HS → Prop) : (match Try.f64.body with | some c => hwp Try.prog (fun p => if p = 6 then some [8] else none) false 1 c (hretQ Try.prog Try.f64.results.toList Q) (([a0, a1] : List HV) ++ List.replicate (Try.f64.ntmps - 2) (.lit undef)) s | none => False) = c64 a0 a1 s Q := by kernel_rfl
theorem HC64 {a0 a1 : HV} {s : HS} {Q : HV → HS → Prop} (h : c64 a0 a1 s Q) : HC Try.prog 64 [a0, a1] s Q := HC_by Try.func64 (by have := c64_eq a0 a1 s Q; exact this.mpr h)
/-- cordwain/cordwainlaw4.small -/
def c26 (a0 : HV) (s : HS) (Q : HV → HS → Prop) : Prop :=
  HLoop (fun y2 s3 K1 => Join (fun K4 => bindO (vLenT (Try.prog.underlying 48) s3 a0) fun x7 => bindO (vBin .lss (y2.tail.headD .junk) x7) fun x8 => hcond x8 (bindO (vBin .leq (y2.headD .junk) (.lit (.int .i64 1000))) fun x9 => K4 [x9] s3) (K4 [(.lit (.bool false))] s3)) (fun y5 s6 => hcond (y5.headD .junk) (bindO (vIdx 5 a0 (y2.tail.headD .junk)) fun x10 => bindO (vField 1 x10) fun x11 => bindO (vLoad s6 x11 1 false) fun x12 => bindO (vLenT (Try.prog.underlying 9) s6 x12) fun x13 => bindO (vIdx 5 a0 (y2.tail.headD .junk)) fun x14 => bindO (vField 2 x14) fun x15 => bindO (vLoad s6 x15 1 false) fun x16 => bindO (vLenT (Try.prog.underlying 9) s6 x16) fun x17 => bindO (vIdx 5 a0 (y2.tail.headD .junk)) fun x18 => bindO (vField 3 x18) fun x19 => bindO (vLoad s6 x19 1 false) fun x20 => bindO (vLenT (Try.prog.underlying 22) s6 x20) fun x21 => hBS s6 1 4 [.lit (.int .i64 0), .lit (.int .i64 0), .lit (.int .i64 0), .lit (.int .i64 0)] [(0, x13), (1, x17), (2, x21), (3, (.lit (.int .i64 1)))] (fun x22 s23 => HC Try.prog 10 [(y2.headD .junk), x22] s23 (fun r24 s25 => bindO (vBin .add (y2.tail.headD .junk) (.lit (.int .i64 1))) fun x26 => K1 [r24, x26] s25))) (bindO (vBin .leq (y2.headD .junk) (.lit (.int .i64 1000))) fun x27 => hcond x27 (bindO (vLenT (Try.prog.underlying 48) s6 a0) fun x28 => bindO (vBin .leq x28 (.lit (.int .i64 80))) fun x29 => Q x29 s6) (Q (.lit (.bool false)) s6)))) [(.lit (.int .i64 0)), (.lit (.int .i64 0))] s
theorem c26_eq (a0 : HV) (s : HS) (Q : HV → HS → Prop) : (match Try.f26.body with | some c => hwp Try.prog (fun p => if p = 58 then some [3, 4] else if p = 232 then some [12] else none) false 1 c (hretQ Try.prog Try.f26.results.toList Q) (([a0] : List HV) ++ List.replicate (Try.f26.ntmps - 1) (.lit undef)) s | none => False) = c26 a0 s Q := by kernel_rfl
theorem HC26 {a0 : HV} {s : HS} {Q : HV → HS → Prop} (h : c26 a0 s Q) : HC Try.prog 26 [a0] s Q := HC_by Try.func26 (by have := c26_eq a0 s Q; exact this.mpr h)
/-- cordwain/cordwainlaw4.does -/
def c29 (a0 a1 a2 : HV) (s : HS) (Q : HV → HS → Prop) : Prop :=
  hBox s a2 (fun x1 s2 => Join (fun K3 => bindO (vField 0 x1) fun x6 => bindO (vLoad s2 x6 1 false) fun x7 => bindO (vCmp (Try.prog.underlying 3) .eql x7 (.lit (.int .i64 1))) fun x8 => hcond x8 (bindO (vField 1 x1) fun x9 => bindO (vLoad s2 x9 1 false) fun x10 => bindO (vField 3 x1) fun x11 => bindO (vLoad s2 x11 1 false) fun x12 => bindO (vField 1 x1) fun x13 => bindO (vLoad s2 x13 1 false) fun x14 => bindO (vField 3 x1) fun x15 => bindO (vLoad s2 x15 1 false) fun x16 => HC Try.prog 13 [a0, x10, x12] s2 (fun r17 s18 => (vLoad s18 x15 1 false = vLoad s2 x15 1 false ∧ (vLoad s18 x13 1 false = vLoad s2 x13 1 false ∧ HC Try.prog 43 [a1, x14, x16] s18 (fun r19 s20 => Q (.tup [r17, r19]) s20))))) (bindO (vCmp (Try.prog.underlying 3) .eql x7 (.lit (.int .i64 2))) fun x21 => hcond x21 (bindO (vField 1 x1) fun x22 => bindO (vLoad s2 x22 1 false) fun x23 => bindO (vField 4 x1) fun x24 => bindO (vLoad s2 x24 1 false) fun x25 => bindO (vField 1 x1) fun x26 => bindO (vLoad s2 x26 1 false) fun x27 => bindO (vField 4 x1) fun x28 => bindO (vLoad s2 x28 1 false) fun x29 => HC Try.prog 24 [a0, x23, x25] s2 (fun r30 s31 => (vLoad s31 x28 1 false = vLoad s2 x28 1 false ∧ (vLoad s31 x26 1 false = vLoad s2 x26 1 false ∧ HC Try.prog 44 [a1, x27, x29] s31 (fun r32 s33 => Q (.tup [r30, r32]) s33))))) (bindO (vCmp (Try.prog.underlying 3) .eql x7 (.lit (.int .i64 3))) fun x34 => hcond x34 (bindO (vField 1 x1) fun x35 => bindO (vLoad s2 x35 1 false) fun x36 => bindO (vField 1 x1) fun x37 => bindO (vLoad s2 x37 1 false) fun x38 => HC Try.prog 14 [a0, x36] s2 (fun r39 s40 => (vLoad s40 x37 1 false = vLoad s2 x37 1 false ∧ HC Try.prog 45 [a1, x38] s40 (fun r41 s42 => Q (.tup [r39, r41]) s42)))) (bindO (vCmp (Try.prog.underlying 3) .eql x7 (.lit (.int .i64 4))) fun x43 => hcond x43 (bindO (vField 1 x1) fun x44 => bindO (vLoad s2 x44 1 false) fun x45 => bindO (vField 2 x1) fun x46 => bindO (vLoad s2 x46 1 false) fun x47 => bindO (vField 1 x1) fun x48 => bindO (vLoad s2 x48 1 false) fun x49 => bindO (vField 2 x1) fun x50 => bindO (vLoad s2 x50 1 false) fun x51 => HC Try.prog 18 [a0, x45, x47] s2 (fun r52 s53 => (vLoad s53 x50 1 false = vLoad s2 x50 1 false ∧ (vLoad s53 x48 1 false = vLoad s2 x48 1 false ∧ HC Try.prog 46 [a1, x49, x51] s53 (fun r54 s55 => Q (.tup [r52, r54]) s55))))) (bindO (vCmp (Try.prog.underlying 3) .eql x7 (.lit (.int .i64 5))) fun x56 => hcond x56 (bindO (vField 1 x1) fun x57 => bindO (vLoad s2 x57 1 false) fun x58 => bindO (vField 1 x1) fun x59 => bindO (vLoad s2 x59 1 false) fun x60 => HC Try.prog 25 [a0, x58] s2 (fun r61 s62 => (vLoad s62 x59 1 false = vLoad s2 x59 1 false ∧ HC Try.prog 47 [a1, x60] s62 (fun r63 s64 => Q (.tup [r61, r63]) s64)))) (bindO (vCmp (Try.prog.underlying 3) .eql x7 (.lit (.int .i64 6))) fun x65 => hcond x65 (HC Try.prog 15 [a0] s2 (fun r66 s67 => HC Try.prog 48 [a1] s67 (fun r68 s69 => Q (.tup [r66, r68]) s69))) (bindO (vCmp (Try.prog.underlying 3) .eql x7 (.lit (.int .i64 7))) fun x70 => hcond x70 (bindO (vField 4 x1) fun x71 => bindO (vLoad s2 x71 1 false) fun x72 => HC Try.prog 27 [a0, x72] s2 (fun r73 s74 => bindO (vField 4 x1) fun x75 => bindO (vLoad s74 x75 1 false) fun x76 => HC Try.prog 49 [a1, x76] s74 (fun r77 s78 => K3 [] s78))) (K3 [] s2)))))))) (fun y4 s5 => Q (.tup [(.lit (.int .i64 0)), (.lit (.int .i64 0))]) s5))
theorem c29_eq (a0 a1 a2 : HV) (s : HS) (Q : HV → HS → Prop) : (match Try.f29.body with | some c => hwp Try.prog (fun p => if p = 3 then some [] else none) false 1 c (hretQ Try.prog Try.f29.results.toList Q) (([a0, a1, a2] : List HV) ++ List.replicate (Try.f29.ntmps - 3) (.lit undef)) s | none => False) = c29 a0 a1 a2 s Q := by kernel_rfl
theorem HC29 {a0 a1 a2 : HV} {s : HS} {Q : HV → HS → Prop} (h : c29 a0 a1 a2 s Q) : HC Try.prog 29 [a0, a1, a2] s Q := HC_by Try.func29 (by have := c29_eq a0 a1 a2 s Q; exact this.mpr h)
/-- cordwain/cordwainlaw4.walk -/
def c32 (a0 a1 : HV) (s : HS) (Q : HV → HS → Prop) : Prop :=
  hBox s a1 (fun x1 s2 => hNew s2 (.cells [.lit (.slice none 0 0)]) (fun id => .ptr id 0) (fun x3 s4 => hNew s4 (.cells [.lit (.slice none 0 0)]) (fun id => .ptr id 0) (fun x5 s6 => HC Try.prog 53 [a0] s6 (fun r7 s8 => bindO (vCmp (Try.prog.underlying 103) .eql r7 (.lit .nilFunc)) fun x9 => hcond x9 (Q (.tup [(.lit (.slice none 0 0)), (.lit (.slice none 0 0))]) s8) (Join (fun K10 => HRange Try.prog r7 2 [a0, a1, (.lit undef), x1, (.lit (.slice none 0 0)), (.lit (.slice none 0 0)), x3, x5, r7, (.lit undef), (.lit undef), a0, r7, r7, (.lit (.bool false)), r7, (.lit undef), (.lit undef), (.lit undef), (.lit undef), (.lit undef), (.lit undef), (.lit undef), (.lit undef), (.lit undef), (.lit undef), (.lit undef), (.lit undef), (.lit undef), (.lit undef), (.lit undef), (.lit undef)] (fun B13 y14 s15 K16 => B13 s15 fun s17 => bindO (vLoad s17 x3 1 false) fun x18 => bindO (vLenT (Try.prog.underlying 41) s17 x18) fun x19 => bindO (vLoad s17 x1 1 false) fun x20 => bindO (vBin .geq x19 x20) fun x21 => hcond x21 (K16 (.exit 0) s17) (bindO (vLoad s17 x3 1 false) fun x22 => hBS s17 1 1 [.lit (.string .empty)] [(0, (y14.headD .junk))] (fun x23 s24 => hAppend s24 1 16 x22 x23 (fun x25 s26 => hStore s26 x3 x25 1 (fun s27 => bindO (vLoad s27 x5 1 false) fun x28 => hBS s27 1 1 [.lit (.int .i64 0)] [(0, (y14.tail.headD .junk))] (fun x29 s30 => hAppend s30 1 8 x28 x29 (fun x31 s32 => hStore s32 x5 x31 1 (fun s33 => K16 .normal s33)))))))) s8 (fun s34 => K10 [] s34) (fun s35 => Q (.tup [(.lit (.slice none 0 0)), (.lit (.slice none 0 0))]) s35) (fun i37 s36 => if i37 = 0 then K10 [] s36 else False)) (fun y11 s12 => bindO (vLoad s12 x3 1 false) fun x38 => bindO (vLoad s12 x5 1 false) fun x39 => (vLoad s12 x5 1 false = vLoad s12 x5 1 false ∧ Q (.tup [x38, x39]) s12)))))))
theorem c32_eq (a0 a1 : HV) (s : HS) (Q : HV → HS → Prop) : (match Try.f32.body with | some c => hwp Try.prog (fun p => if p = 63 then some [] else none) false 1 c (hretQ Try.prog Try.f32.results.toList Q) (([a0, a1] : List HV) ++ List.replicate (Try.f32.ntmps - 2) (.lit undef)) s | none => False) = c32 a0 a1 s Q := by kernel_rfl
theorem HC32 {a0 a1 : HV} {s : HS} {Q : HV → HS → Prop} (h : c32 a0 a1 s Q) : HC Try.prog 32 [a0, a1] s Q := HC_by Try.func32 (by have := c32_eq a0 a1 s Q; exact this.mpr h)
/-- cordwain/cordwainlaw4.shows -/
def c30 (a0 a1 : HV) (s : HS) (Q : HV → HS → Prop) : Prop :=
  Join (fun K1 => bindO (vCmp (Try.prog.underlying 27) .eql a0 (.lit (.pointer none))) fun x4 => hcond x4 (K1 [(.lit (.bool true))] s) (bindO (vCmp (Try.prog.underlying 51) .eql a1 (.lit (.pointer none))) fun x5 => K1 [x5] s)) (fun y2 s3 => hcond (y2.headD .junk) (Q (.lit (.bool false)) s3) (HC Try.prog 32 [a0, (.lit (.int .i64 1000))] s3 (fun r6 s7 => bindO (vExtract r6 0) fun x8 => bindO (vExtract r6 1) fun x9 => HC Try.prog 20 [a0] s7 (fun r10 s11 => Join (fun K12 => bindO (vLenT (Try.prog.underlying 41) s11 x8) fun x15 => bindO (vNil a1) fun x16 => bindO (vField 2 x16) fun x17 => bindO (vLoad s11 x17 1 false) fun x18 => bindO (vLenT (Try.prog.underlying 65) s11 x18) fun x19 => bindO (vCmp (Try.prog.underlying 3) .neq x15 x19) fun x20 => hcond x20 ((vLoad s11 (.lit undef) 1 false = vLoad s11 (.lit undef) 1 false ∧ K12 [(.lit (.bool true))] s11)) (bindO (vLenT (Try.prog.underlying 24) s11 x9) fun x21 => bindO (vLenT (Try.prog.underlying 41) s11 x8) fun x22 => bindO (vCmp (Try.prog.underlying 3) .neq x21 x22) fun x23 => hcond x23 ((vLoad s11 (.lit undef) 1 false = vLoad s11 (.lit undef) 1 false ∧ K12 [(.lit (.bool true))] s11)) (HC Try.prog 50 [x8, r10] s11 (fun r24 s25 => bindO (vUn .not r24) fun x26 => hcond x26 ((vLoad s25 (.lit undef) 1 false = vLoad s25 (.lit undef) 1 false ∧ K12 [(.lit (.bool true))] s25)) (HC Try.prog 21 [a0] s25 (fun r27 s28 => HC Try.prog 51 [a1] s28 (fun r29 s30 => bindO (vCmp (Try.prog.underlying 3) .neq r27 r29) fun x31 => hcond x31 ((vLoad s30 (.lit undef) 1 false = vLoad s30 (.lit undef) 1 false ∧ K12 [(.lit (.bool true))] s30)) (bindO (vNil a1) fun x32 => bindO (vField 7 x32) fun x33 => bindO (vLoad s30 x33 1 false) fun x34 => HC Try.prog 22 [a0] s30 (fun r35 s36 => (vLoad s36 x33 1 false = vLoad s30 x33 1 false ∧ bindO (vCmp (Try.prog.underlying 3) .neq r35 x34) fun x37 => K12 [x37] s36)))))))))) (fun y13 s14 => hcond (y13.headD .junk) (Q (.lit (.bool false)) s14) (HLoop (fun y39 s40 K38 => bindO (vLenT (Try.prog.underlying 41) s40 x8) fun x41 => bindO (vBin .lss (y39.headD .junk) x41) fun x42 => hcond x42 (bindO (vIdx 1 x8 (y39.headD .junk)) fun x43 => bindO (vLoad s40 x43 1 false) fun x44 => HC Try.prog 17 [a0, x44] s40 (fun r45 s46 => bindO (vExtract r45 0) fun x47 => bindO (vExtract r45 1) fun x48 => bindO (vIdx 1 x8 (y39.headD .junk)) fun x49 => bindO (vLoad s46 x49 1 false) fun x50 => HC Try.prog 31 [a1, x50] s46 (fun r51 s52 => bindO (vExtract r51 0) fun x53 => bindO (vExtract r51 1) fun x54 => Join (fun K55 => bindO (vIdx 1 x8 (y39.headD .junk)) fun x58 => bindO (vLoad s52 x58 1 false) fun x59 => bindO (vNil a1) fun x60 => bindO (vField 2 x60) fun x61 => bindO (vLoad s52 x61 1 false) fun x62 => bindO (vIdx 2 x62 (y39.headD .junk)) fun x63 => bindO (vField 0 x63) fun x64 => bindO (vLoad s52 x64 1 false) fun x65 => bindO (vCmp (Try.prog.underlying 9) .neq x59 x65) fun x66 => hcond x66 ((vLenT (Try.prog.underlying 22) s52 (.lit undef) = vLenT (Try.prog.underlying 22) s52 (.lit undef) ∧ K55 [(.lit (.bool true))] s52)) (bindO (vIdx 1 x9 (y39.headD .junk)) fun x67 => bindO (vLoad s52 x67 1 false) fun x68 => bindO (vLenT (Try.prog.underlying 22) s52 x53) fun x69 => bindO (vCmp (Try.prog.underlying 3) .neq x68 x69) fun x70 => hcond x70 ((vLenT (Try.prog.underlying 22) s52 (.lit undef) = vLenT (Try.prog.underlying 22) s52 (.lit undef) ∧ K55 [(.lit (.bool true))] s52)) (bindO ((if isStrHV x47 then none else vToStr s52 x47)) fun x71 => bindO ((if isStrHV x53 then none else vToStr s52 x53)) fun x72 => bindO (vCmp (Try.prog.underlying 9) .neq x71 x72) fun x73 => hcond x73 ((vLenT (Try.prog.underlying 22) s52 (.lit undef) = vLenT (Try.prog.underlying 22) s52 (.lit undef) ∧ K55 [(.lit (.bool true))] s52)) (bindO (vCmp (Try.prog.underlying 3) .neq x48 x54) fun x74 => hcond x74 ((vLenT (Try.prog.underlying 22) s52 (.lit undef) = vLenT (Try.prog.underlying 22) s52 (.lit undef) ∧ K55 [(.lit (.bool true))] s52)) (bindO (vIdx 1 x8 (y39.headD .junk)) fun x75 => bindO (vLoad s52 x75 1 false) fun x76 => bindO (vLenT (Try.prog.underlying 22) s52 x53) fun x77 => HC Try.prog 19 [a0, x76] s52 (fun r78 s79 => (vLenT (Try.prog.underlying 22) s79 x53 = vLenT (Try.prog.underlying 22) s52 x53 ∧ bindO (vCmp (Try.prog.underlying 3) .neq r78 x77) fun x80 => K55 [x80] s79))))))) (fun y56 s57 => hcond (y56.headD .junk) (Q (.lit (.bool false)) s57) (bindO (vBin .add (y39.headD .junk) (.lit (.int .i64 1))) fun x81 => K38 [x81] s57))))) (Q (.lit (.bool true)) s40)) [(.lit (.int .i64 0))] s14))))))
theorem c30_eq (a0 a1 : HV) (s : HS) (Q : HV → HS → Prop) : (match Try.f30.body with | some c => hwp Try.prog (fun p => if p = 6 then some [18] else if p = 62 then some [62] else if p = 506 then some [8] else if p = 32403 then some [131] else none) false 1 c (hretQ Try.prog Try.f30.results.toList Q) (([a0, a1] : List HV) ++ List.replicate (Try.f30.ntmps - 2) (.lit undef)) s | none => False) = c30 a0 a1 s Q := by kernel_rfl
theorem HC30 {a0 a1 : HV} {s : HS} {Q : HV → HS → Prop} (h : c30 a0 a1 s Q) : HC Try.prog 30 [a0, a1] s Q := HC_by Try.func30 (by have := c30_eq a0 a1 s Q; exact this.mpr h)
/-- cordwain/cordwainlaw4.awake -/
def c11 (s : HS) (Q : HV → HS → Prop) : Prop :=
  HC Try.prog 12 [(.lit (.int .i64 10))] s (fun r1 s2 => bindO (vExtract r1 0) fun x3 => bindO (vExtract r1 1) fun x4 => HC Try.prog 12 [(.lit (.int .i64 (-1)))] s2 (fun r5 s6 => bindO (vExtract r5 0) fun x7 => bindO (vExtract r5 1) fun x8 => Join (fun K9 => bindO (vCmp (Try.prog.underlying 28) .neq x4 (.lit (.int .i64 0))) fun x12 => hcond x12 (K9 [(.lit (.bool true))] s6) (bindO (vCmp (Try.prog.underlying 27) .eql x3 (.lit (.pointer none))) fun x13 => hcond x13 (K9 [(.lit (.bool true))] s6) (bindO (vCmp (Try.prog.underlying 28) .neq x8 (.lit (.int .i64 1))) fun x14 => K9 [x14] s6))) (fun y10 s11 => hcond (y10.headD .junk) (Q (.lit (.bool false)) s11) (hBS s11 1 2 [.lit (.int .u8 0), .lit (.int .u8 0)] [(0, (.lit (.int .u8 97))), (1, (.lit (.int .u8 98)))] (fun x15 s16 => hMark s16 x15 (fun x17 s18 => HC Try.prog 13 [x3, (.lit (.string { data := #[120] })), x17] s18 (fun r19 s20 => HC Try.prog 16 [x3, (.lit (.slice none 0 0))] s20 (fun r21 s22 => HC Try.prog 14 [x3, (.lit (.string { data := #[120] }))] s22 (fun r23 s24 => HC Try.prog 15 [x3] s24 (fun r25 s26 => HC Try.prog 16 [x3, (.lit (.slice none 0 0))] s26 (fun r27 s28 => Join (fun K29 => bindO (vCmp (Try.prog.underlying 27) .eql r21 (.lit (.pointer none))) fun x32 => hcond x32 (K29 [(.lit (.bool true))] s28) (bindO (vCmp (Try.prog.underlying 27) .eql r27 (.lit (.pointer none))) fun x33 => K29 [x33] s28)) (fun y30 s31 => hcond (y30.headD .junk) (Q (.lit (.bool false)) s31) (bindO (vCmp (Try.prog.underlying 28) .eql r19 (.lit (.int .i64 0))) fun x34 => hcond x34 (hMake s31 1 1 (.int .u8 0) (.lit (.int .i64 9)) (.lit (.int .i64 9)) (fun x35 s36 => HC Try.prog 13 [x3, (.lit (.string { data := #[120] })), x35] s36 (fun r37 s38 => bindO (vCmp (Try.prog.underlying 28) .eql r37 (.lit (.int .i64 4))) fun x39 => hcond x39 (HC Try.prog 19 [r21, (.lit (.string { data := #[120] }))] s38 (fun r40 s41 => bindO (vCmp (Try.prog.underlying 3) .eql r40 (.lit (.int .i64 (-1)))) fun x42 => hcond x42 (HC Try.prog 19 [r27, (.lit (.string { data := #[120] }))] s41 (fun r43 s44 => bindO (vCmp (Try.prog.underlying 3) .eql r43 (.lit (.int .i64 2))) fun x45 => Q x45 s44)) (Q (.lit (.bool false)) s41))) (Q (.lit (.bool false)) s38)))) (Q (.lit (.bool false)) s31))))))))))))))
theorem c11_eq (s : HS) (Q : HV → HS → Prop) : (match Try.f11.body with | some c => hwp Try.prog (fun p => if p = 30 then some [25] else if p = 2046 then some [43] else none) false 1 c (hretQ Try.prog Try.f11.results.toList Q) (([] : List HV) ++ List.replicate (Try.f11.ntmps - 0) (.lit undef)) s | none => False) = c11 s Q := by kernel_rfl
theorem HC11 {s : HS} {Q : HV → HS → Prop} (h : c11 s Q) : HC Try.prog 11 [] s Q := HC_by Try.func11 (by have := c11_eq s Q; exact this.mpr h)
/-- cordwain/cordwainlaw4.DiskTails -/
def c3 (a0 a1 a2 : HV) (s : HS) (Q : HV → HS → Prop) : Prop :=
  HLoop (fun y2 s3 K1 => Join (fun K4 => bindO (vLenT (Try.prog.underlying 23) s3 a1) fun x7 => bindO (vBin .lss (y2.tail.headD .junk) x7) fun x8 => hcond x8 (bindO (vBin .leq (y2.headD .junk) (.lit (.int .i64 500))) fun x9 => K4 [x9] s3) (K4 [(.lit (.bool false))] s3)) (fun y5 s6 => hcond (y5.headD .junk) (bindO (vIdx 1 a1 (y2.tail.headD .junk)) fun x10 => bindO (vLoad s6 x10 1 false) fun x11 => bindO (vLenT (Try.prog.underlying 22) s6 x11) fun x12 => hBS s6 1 2 [.lit (.int .i64 0), .lit (.int .i64 0)] [(0, x12), (1, (.lit (.int .i64 1)))] (fun x13 s14 => HC Try.prog 10 [(y2.headD .junk), x13] s14 (fun r15 s16 => bindO (vBin .add (y2.tail.headD .junk) (.lit (.int .i64 1))) fun x17 => K1 [r15, x17] s16))) (Join (fun K18 => bindO (vBin .gtr (y2.headD .junk) (.lit (.int .i64 500))) fun x21 => hcond x21 (K18 [(.lit (.bool true))] s6) (bindO (vLenT (Try.prog.underlying 22) s6 a0) fun x22 => bindO (vBin .gtr x22 (.lit (.int .i64 300))) fun x23 => hcond x23 (K18 [(.lit (.bool true))] s6) (bindO (vLenT (Try.prog.underlying 24) s6 a2) fun x24 => bindO (vBin .gtr x24 (.lit (.int .i64 20))) fun x25 => K18 [x25] s6))) (fun y19 s20 => hcond (y19.headD .junk) (HC Try.prog 11 [] s20 (fun r26 s27 => Q r26 s27)) (HC Try.prog 12 [(.lit (.int .i64 1048576))] s20 (fun r28 s29 => bindO (vExtract r28 0) fun x30 => bindO (vExtract r28 1) fun x31 => Join (fun K32 => bindO (vCmp (Try.prog.underlying 28) .neq x31 (.lit (.int .i64 0))) fun x35 => hcond x35 (K32 [(.lit (.bool true))] s29) (bindO (vCmp (Try.prog.underlying 27) .eql x30 (.lit (.pointer none))) fun x36 => hcond x36 (K32 [(.lit (.bool true))] s29) (HC Try.prog 13 [x30, (.lit (.string { data := #[102] })), a0] s29 (fun r37 s38 => bindO (vCmp (Try.prog.underlying 28) .neq r37 (.lit (.int .i64 0))) fun x39 => hcond x39 (K32 [(.lit (.bool true))] s38) (HC Try.prog 14 [x30, (.lit (.string { data := #[102] }))] s38 (fun r40 s41 => bindO (vCmp (Try.prog.underlying 28) .neq r40 (.lit (.int .i64 0))) fun x42 => hcond x42 (K32 [(.lit (.bool true))] s41) (HC Try.prog 15 [x30] s41 (fun r43 s44 => bindO (vCmp (Try.prog.underlying 28) .neq r43 (.lit (.int .i64 0))) fun x45 => K32 [x45] s44)))))))) (fun y33 s34 => hcond (y33.headD .junk) (Q (.lit (.bool false)) s34) (hBS s34 1 0 [] [] (fun x46 s47 => hAppend s47 1 1 x46 a0 (fun x48 s49 => HLoop (fun y51 s52 K50 => bindO (vLenT (Try.prog.underlying 23) s52 a1) fun x53 => bindO (vBin .lss (y51.tail.headD .junk) x53) fun x54 => hcond x54 (bindO (vIdx 1 a1 (y51.tail.headD .junk)) fun x55 => bindO (vLoad s52 x55 1 false) fun x56 => HC Try.prog 13 [x30, (.lit (.string { data := #[102] })), x56] s52 (fun r57 s58 => bindO (vCmp (Try.prog.underlying 28) .neq r57 (.lit (.int .i64 0))) fun x59 => hcond x59 (Q (.lit (.bool false)) s58) (bindO (vIdx 1 a1 (y51.tail.headD .junk)) fun x60 => bindO (vLoad s58 x60 1 false) fun x61 => hAppend s58 1 1 (y51.headD .junk) x61 (fun x62 s63 => bindO (vBin .add (y51.tail.headD .junk) (.lit (.int .i64 1))) fun x64 => K50 [x62, x64] s63)))) (HC Try.prog 16 [x30, a2] s52 (fun r65 s66 => bindO (vCmp (Try.prog.underlying 27) .eql r65 (.lit (.pointer none))) fun x67 => hcond x67 (Q (.lit (.bool false)) s66) (HC Try.prog 17 [r65, (.lit (.string { data := #[102] }))] s66 (fun r68 s69 => bindO (vExtract r68 0) fun x70 => bindO (vExtract r68 1) fun x71 => HC Try.prog 17 [x30, (.lit (.string { data := #[102] }))] s69 (fun r72 s73 => bindO (vExtract r72 0) fun x74 => bindO (vExtract r72 1) fun x75 => bindO (vCmp (Try.prog.underlying 28) .eql x71 (.lit (.int .i64 0))) fun x76 => hcond x76 (bindO (vCmp (Try.prog.underlying 28) .eql x75 (.lit (.int .i64 0))) fun x77 => hcond x77 (bindO (vLenT (Try.prog.underlying 22) s73 x70) fun x78 => bindO (vLenT (Try.prog.underlying 22) s73 a0) fun x79 => bindO (vBin .geq x78 x79) fun x80 => hcond x80 (bindO (vLenT (Try.prog.underlying 22) s73 x70) fun x81 => bindO (vLenT (Try.prog.underlying 22) s73 (y51.headD .junk)) fun x82 => bindO (vBin .leq x81 x82) fun x83 => hcond x83 (bindO ((if isStrHV x70 then none else vToStr s73 x70)) fun x84 => bindO (vLenT (Try.prog.underlying 22) s73 x70) fun x85 => bindO (vSlice 1 (y51.headD .junk) none (some x85) none) fun x86 => bindO ((if isStrHV x86 then none else vToStr s73 x86)) fun x87 => bindO (vCmp (Try.prog.underlying 9) .eql x84 x87) fun x88 => hcond x88 (bindO ((if isStrHV x74 then none else vToStr s73 x74)) fun x89 => bindO ((if isStrHV (y51.headD .junk) then none else vToStr s73 (y51.headD .junk))) fun x90 => bindO (vCmp (Try.prog.underlying 9) .eql x89 x90) fun x91 => hcond x91 (HC Try.prog 11 [] s73 (fun r92 s93 => Q r92 s93)) (Q (.lit (.bool false)) s73)) (Q (.lit (.bool false)) s73)) (Q (.lit (.bool false)) s73)) (Q (.lit (.bool false)) s73)) (Q (.lit (.bool false)) s73)) (Q (.lit (.bool false)) s73))))))) [x48, (.lit (.int .i64 0))] s49)))))))))) [(.lit (.int .i64 0)), (.lit (.int .i64 0))] s
/-- cordwain/cordwainlaw4.DiskRenames -/
def c4 (a0 a1 a2 a3 : HV) (s : HS) (Q : HV → HS → Prop) : Prop :=
  Join (fun K1 => bindO (vLenT (Try.prog.underlying 22) s a0) fun x4 => bindO (vBin .gtr x4 (.lit (.int .i64 300))) fun x5 => hcond x5 (K1 [(.lit (.bool true))] s) (bindO (vLenT (Try.prog.underlying 22) s a1) fun x6 => bindO (vBin .gtr x6 (.lit (.int .i64 300))) fun x7 => hcond x7 (K1 [(.lit (.bool true))] s) (bindO (vLenT (Try.prog.underlying 24) s a3) fun x8 => bindO (vBin .gtr x8 (.lit (.int .i64 20))) fun x9 => K1 [x9] s))) (fun y2 s3 => hcond (y2.headD .junk) (HC Try.prog 11 [] s3 (fun r10 s11 => Q r10 s11)) (HC Try.prog 12 [(.lit (.int .i64 1048576))] s3 (fun r12 s13 => bindO (vExtract r12 0) fun x14 => bindO (vExtract r12 1) fun x15 => Join (fun K16 => bindO (vCmp (Try.prog.underlying 28) .neq x15 (.lit (.int .i64 0))) fun x19 => hcond x19 (K16 [(.lit (.bool true))] s13) (bindO (vCmp (Try.prog.underlying 27) .eql x14 (.lit (.pointer none))) fun x20 => K16 [x20] s13)) (fun y17 s18 => hcond (y17.headD .junk) (Q (.lit (.bool false)) s18) (Join (fun K21 => HC Try.prog 13 [x14, (.lit (.string { data := #[111, 108, 100] })), a0] s18 (fun r24 s25 => bindO (vCmp (Try.prog.underlying 28) .neq r24 (.lit (.int .i64 0))) fun x26 => hcond x26 (K21 [(.lit (.bool true))] s25) (HC Try.prog 14 [x14, (.lit (.string { data := #[111, 108, 100] }))] s25 (fun r27 s28 => bindO (vCmp (Try.prog.underlying 28) .neq r27 (.lit (.int .i64 0))) fun x29 => hcond x29 (K21 [(.lit (.bool true))] s28) (HC Try.prog 13 [x14, (.lit (.string { data := #[110, 101, 119] })), a1] s28 (fun r30 s31 => bindO (vCmp (Try.prog.underlying 28) .neq r30 (.lit (.int .i64 0))) fun x32 => hcond x32 (K21 [(.lit (.bool true))] s31) (HC Try.prog 14 [x14, (.lit (.string { data := #[110, 101, 119] }))] s31 (fun r33 s34 => bindO (vCmp (Try.prog.underlying 28) .neq r33 (.lit (.int .i64 0))) fun x35 => hcond x35 (K21 [(.lit (.bool true))] s34) (HC Try.prog 15 [x14] s34 (fun r36 s37 => bindO (vCmp (Try.prog.underlying 28) .neq r36 (.lit (.int .i64 0))) fun x38 => hcond x38 (K21 [(.lit (.bool true))] s37) (HC Try.prog 18 [x14, (.lit (.string { data := #[110, 101, 119] })), (.lit (.string { data := #[111, 108, 100] }))] s37 (fun r39 s40 => bindO (vCmp (Try.prog.underlying 28) .neq r39 (.lit (.int .i64 0))) fun x41 => K21 [x41] s40)))))))))))) (fun y22 s23 => hcond (y22.headD .junk) (Q (.lit (.bool false)) s23) (Join (fun K42 => hcond a2 (HC Try.prog 15 [x14] s23 (fun r45 s46 => bindO (vCmp (Try.prog.underlying 28) .neq r45 (.lit (.int .i64 0))) fun x47 => K42 [x47] s46)) (K42 [(.lit (.bool false))] s23)) (fun y43 s44 => hcond (y43.headD .junk) (Q (.lit (.bool false)) s44) (HC Try.prog 16 [x14, a3] s44 (fun r48 s49 => bindO (vCmp (Try.prog.underlying 27) .eql r48 (.lit (.pointer none))) fun x50 => hcond x50 (Q (.lit (.bool false)) s49) (HC Try.prog 17 [r48, (.lit (.string { data := #[111, 108, 100] }))] s49 (fun r51 s52 => bindO (vExtract r51 0) fun x53 => bindO (vExtract r51 1) fun x54 => HC Try.prog 17 [r48, (.lit (.string { data := #[110, 101, 119] }))] s52 (fun r55 s56 => bindO (vExtract r55 0) fun x57 => bindO (vExtract r55 1) fun x58 => bindO (vCmp (Try.prog.underlying 28) .neq x54 (.lit (.int .i64 0))) fun x59 => hcond x59 (Q (.lit (.bool false)) s56) (bindO (vCmp (Try.prog.underlying 28) .eql x58 (.lit (.int .i64 5))) fun x60 => hcond x60 (bindO ((if isStrHV x53 then none else vToStr s56 x53)) fun x61 => bindO ((if isStrHV a1 then none else vToStr s56 a1)) fun x62 => bindO (vCmp (Try.prog.underlying 9) .eql x61 x62) fun x63 => hcond x63 (HC Try.prog 11 [] s56 (fun r64 s65 => Q r64 s65)) (Q (.lit (.bool false)) s56)) (bindO (vUn .not a2) fun x66 => hcond x66 (bindO ((if isStrHV x53 then none else vToStr s56 x53)) fun x67 => bindO ((if isStrHV a0 then none else vToStr s56 a0)) fun x68 => bindO (vCmp (Try.prog.underlying 9) .eql x67 x68) fun x69 => hcond x69 (bindO ((if isStrHV x57 then none else vToStr s56 x57)) fun x70 => bindO ((if isStrHV a1 then none else vToStr s56 a1)) fun x71 => bindO (vCmp (Try.prog.underlying 9) .eql x70 x71) fun x72 => hcond x72 (HC Try.prog 11 [] s56 (fun r73 s74 => Q r73 s74)) (Q (.lit (.bool false)) s56)) (Q (.lit (.bool false)) s56)) (Q (.lit (.bool false)) s56))))))))))))))))
/-- cordwain/cordwainlaw4.DiskNothing -/
def c5 (a0 a1 : HV) (s : HS) (Q : HV → HS → Prop) : Prop :=
  Join (fun K1 => bindO (vLenT (Try.prog.underlying 9) s a0) fun x4 => bindO (vBin .gtr x4 (.lit (.int .i64 200))) fun x5 => hcond x5 (K1 [(.lit (.bool true))] s) (bindO (vLenT (Try.prog.underlying 22) s a1) fun x6 => bindO (vCmp (Try.prog.underlying 3) .eql x6 (.lit (.int .i64 0))) fun x7 => hcond x7 (K1 [(.lit (.bool true))] s) (bindO (vLenT (Try.prog.underlying 22) s a1) fun x8 => bindO (vBin .gtr x8 (.lit (.int .i64 300))) fun x9 => K1 [x9] s))) (fun y2 s3 => hcond (y2.headD .junk) (HC Try.prog 11 [] s3 (fun r10 s11 => Q r10 s11)) (HC Try.prog 17 [(.lit (.pointer none)), a0] s3 (fun r12 s13 => bindO (vExtract r12 0) fun x14 => bindO (vExtract r12 1) fun x15 => HC Try.prog 12 [(.lit (.int .i64 1000))] s13 (fun r16 s17 => bindO (vExtract r16 0) fun x18 => bindO (vExtract r16 1) fun x19 => Join (fun K20 => HC Try.prog 13 [(.lit (.pointer none)), (.lit (.string { data := #[120] })), a1] s17 (fun r23 s24 => bindO (vCmp (Try.prog.underlying 28) .neq r23 (.lit (.int .i64 7))) fun x25 => hcond x25 (K20 [(.lit (.bool true))] s24) (HC Try.prog 14 [(.lit (.pointer none)), (.lit (.string { data := #[120] }))] s24 (fun r26 s27 => bindO (vCmp (Try.prog.underlying 28) .neq r26 (.lit (.int .i64 7))) fun x28 => hcond x28 (K20 [(.lit (.bool true))] s27) (HC Try.prog 15 [(.lit (.pointer none))] s27 (fun r29 s30 => bindO (vCmp (Try.prog.underlying 28) .neq r29 (.lit (.int .i64 7))) fun x31 => hcond x31 (K20 [(.lit (.bool true))] s30) (bindO (vCmp (Try.prog.underlying 28) .neq x15 (.lit (.int .i64 5))) fun x32 => hcond x32 (K20 [(.lit (.bool true))] s30) (HC Try.prog 19 [(.lit (.pointer none)), a0] s30 (fun r33 s34 => bindO (vCmp (Try.prog.underlying 3) .neq r33 (.lit (.int .i64 (-1)))) fun x35 => hcond x35 (K20 [(.lit (.bool true))] s34) (HC Try.prog 20 [(.lit (.pointer none))] s34 (fun r36 s37 => bindO (vLenT (Try.prog.underlying 41) s37 r36) fun x38 => bindO (vCmp (Try.prog.underlying 3) .neq x38 (.lit (.int .i64 0))) fun x39 => hcond x39 (K20 [(.lit (.bool true))] s37) (HC Try.prog 21 [(.lit (.pointer none))] s37 (fun r40 s41 => bindO (vCmp (Try.prog.underlying 3) .neq r40 (.lit (.int .i64 0))) fun x42 => hcond x42 (K20 [(.lit (.bool true))] s41) (HC Try.prog 22 [(.lit (.pointer none))] s41 (fun r43 s44 => bindO (vCmp (Try.prog.underlying 3) .neq r43 (.lit (.int .i64 0))) fun x45 => hcond x45 (K20 [(.lit (.bool true))] s44) (HC Try.prog 16 [(.lit (.pointer none)), (.lit (.slice none 0 0))] s44 (fun r46 s47 => bindO (vCmp (Try.prog.underlying 27) .neq r46 (.lit (.pointer none))) fun x48 => hcond x48 (K20 [(.lit (.bool true))] s47) (bindO (vCmp (Try.prog.underlying 28) .neq x19 (.lit (.int .i64 0))) fun x49 => hcond x49 (K20 [(.lit (.bool true))] s47) (bindO (vCmp (Try.prog.underlying 27) .eql x18 (.lit (.pointer none))) fun x50 => K20 [x50] s47))))))))))))))))))) (fun y21 s22 => hcond (y21.headD .junk) (Q (.lit (.bool false)) s22) (hBS s22 1 0 [] [] (fun x51 s52 => hAppend s52 1 1 x51 a1 (fun x53 s54 => HC Try.prog 13 [x18, (.lit (.string { data := #[120] })), x53] s54 (fun r55 s56 => bindO (vIdx 1 x53 (.lit (.int .i64 0))) fun x57 => bindO (vLoad s56 x57 1 false) fun x58 => bindO (vBin .add x58 (.lit (.int .u8 1))) fun x59 => bindO (vIdx 1 x53 (.lit (.int .i64 0))) fun x60 => hStore s56 x60 x59 1 (fun s61 => HC Try.prog 17 [x18, (.lit (.string { data := #[120] }))] s61 (fun r62 s63 => bindO (vExtract r62 0) fun x64 => bindO (vExtract r62 1) fun x65 => bindO ((if isStrHV x64 then none else vToStr s63 x64)) fun x66 => bindO ((if isStrHV a1 then none else vToStr s63 a1)) fun x67 => bindO (vCmp (Try.prog.underlying 9) .neq x66 x67) fun x68 => hcond x68 (Q (.lit (.bool false)) s63) (bindO (vIdx 1 x64 (.lit (.int .i64 0))) fun x69 => bindO (vLoad s63 x69 1 false) fun x70 => bindO (vBin .add x70 (.lit (.int .u8 1))) fun x71 => bindO (vIdx 1 x64 (.lit (.int .i64 0))) fun x72 => hStore s63 x72 x71 1 (fun s73 => HC Try.prog 17 [x18, (.lit (.string { data := #[120] }))] s73 (fun r74 s75 => bindO (vExtract r74 0) fun x76 => bindO (vExtract r74 1) fun x77 => bindO ((if isStrHV x76 then none else vToStr s75 x76)) fun x78 => bindO ((if isStrHV a1 then none else vToStr s75 a1)) fun x79 => bindO (vCmp (Try.prog.underlying 9) .eql x78 x79) fun x80 => hcond x80 (HC Try.prog 11 [] s75 (fun r81 s82 => Q r81 s82)) (Q (.lit (.bool false)) s75)))))))))))))))
/-- cordwain/cordwainlaw4.DiskRoom -/
def c6 (a0 a1 a2 : HV) (s : HS) (Q : HV → HS → Prop) : Prop :=
  Join (fun K1 => bindO (vBin .lss a0 (.lit (.int .i64 1))) fun x4 => hcond x4 (K1 [(.lit (.bool true))] s) (bindO (vBin .gtr a0 (.lit (.int .i64 1000))) fun x5 => hcond x5 (K1 [(.lit (.bool true))] s) (bindO (vBin .lss a1 (.lit (.int .i64 0))) fun x6 => hcond x6 (K1 [(.lit (.bool true))] s) (bindO (vBin .gtr a1 (.lit (.int .i64 1200))) fun x7 => K1 [x7] s)))) (fun y2 s3 => hcond (y2.headD .junk) (HC Try.prog 11 [] s3 (fun r8 s9 => Q r8 s9)) (HC Try.prog 12 [a0] s3 (fun r10 s11 => bindO (vExtract r10 0) fun x12 => bindO (vExtract r10 1) fun x13 => Join (fun K14 => bindO (vCmp (Try.prog.underlying 28) .neq x13 (.lit (.int .i64 0))) fun x17 => hcond x17 (K14 [(.lit (.bool true))] s11) (bindO (vCmp (Try.prog.underlying 27) .eql x12 (.lit (.pointer none))) fun x18 => K14 [x18] s11)) (fun y15 s16 => hcond (y15.headD .junk) (Q (.lit (.bool false)) s16) (hMake s16 1 1 (.int .u8 0) a1 a1 (fun x19 s20 => HC Try.prog 13 [x12, (.lit (.string { data := #[97] })), x19] s20 (fun r21 s22 => Join (fun K23 => bindO (vCmp (Try.prog.underlying 28) .eql r21 (.lit (.int .i64 0))) fun x26 => bindO (vBin .leq a1 a0) fun x27 => bindO (vCmp (Try.prog.underlying 4) .neq x26 x27) fun x28 => hcond x28 (K23 [(.lit (.bool true))] s22) (bindO (vCmp (Try.prog.underlying 28) .neq r21 (.lit (.int .i64 0))) fun x29 => hcond x29 (bindO (vCmp (Try.prog.underlying 28) .neq r21 (.lit (.int .i64 4))) fun x30 => K23 [x30] s22) (K23 [(.lit (.bool false))] s22))) (fun y24 s25 => hcond (y24.headD .junk) (Q (.lit (.bool false)) s25) (bindO (vCmp (Try.prog.underlying 28) .neq r21 (.lit (.int .i64 0))) fun x31 => hcond x31 (HC Try.prog 19 [x12, (.lit (.string { data := #[97] }))] s25 (fun r32 s33 => bindO (vCmp (Try.prog.underlying 3) .eql r32 (.lit (.int .i64 (-1)))) fun x34 => hcond x34 (HC Try.prog 21 [x12] s33 (fun r35 s36 => bindO (vCmp (Try.prog.underlying 3) .eql r35 (.lit (.int .i64 0))) fun x37 => hcond x37 (hMake s36 1 1 (.int .u8 0) a0 a0 (fun x38 s39 => HC Try.prog 13 [x12, (.lit (.string { data := #[97] })), x38] s39 (fun r40 s41 => bindO (vCmp (Try.prog.underlying 28) .eql r40 (.lit (.int .i64 0))) fun x42 => hcond x42 (HC Try.prog 11 [] s41 (fun r43 s44 => Q r43 s44)) (Q (.lit (.bool false)) s41)))) (Q (.lit (.bool false)) s36))) (Q (.lit (.bool false)) s33))) (bindO (vBin .add a1 (.lit (.int .i64 1))) fun x45 => HC Try.prog 23 [a2, x45] s25 (fun r46 s47 => Join (fun K48 => bindO (vBin .sub a0 a1) fun x51 => hMake s47 1 1 (.int .u8 0) x51 x51 (fun x52 s53 => HC Try.prog 13 [x12, (.lit (.string { data := #[98] })), x52] s53 (fun r54 s55 => bindO (vCmp (Try.prog.underlying 28) .neq r54 (.lit (.int .i64 0))) fun x56 => hcond x56 (K48 [(.lit (.bool true))] s55) (hBS s55 1 1 [.lit (.int .u8 0)] [(0, (.lit (.int .u8 120)))] (fun x57 s58 => hMark s58 x57 (fun x59 s60 => HC Try.prog 13 [x12, (.lit (.string { data := #[98] })), x59] s60 (fun r61 s62 => bindO (vCmp (Try.prog.underlying 28) .neq r61 (.lit (.int .i64 4))) fun x63 => hcond x63 (K48 [(.lit (.bool true))] s62) (HC Try.prog 24 [x12, (.lit (.string { data := #[97] })), r46] s62 (fun r64 s65 => bindO (vCmp (Try.prog.underlying 28) .neq r64 (.lit (.int .i64 0))) fun x66 => hcond x66 (K48 [(.lit (.bool true))] s65) (bindO (vBin .sub a1 r46) fun x67 => hMake s65 1 1 (.int .u8 0) x67 x67 (fun x68 s69 => HC Try.prog 13 [x12, (.lit (.string { data := #[98] })), x68] s69 (fun r70 s71 => bindO (vCmp (Try.prog.underlying 28) .neq r70 (.lit (.int .i64 0))) fun x72 => hcond x72 (K48 [(.lit (.bool true))] s71) (hBS s71 1 1 [.lit (.int .u8 0)] [(0, (.lit (.int .u8 120)))] (fun x73 s74 => hMark s74 x73 (fun x75 s76 => HC Try.prog 13 [x12, (.lit (.string { data := #[97] })), x75] s76 (fun r77 s78 => bindO (vCmp (Try.prog.underlying 28) .neq r77 (.lit (.int .i64 4))) fun x79 => K48 [x79] s78)))))))))))))))) (fun y49 s50 => hcond (y49.headD .junk) (Q (.lit (.bool false)) s50) (HC Try.prog 21 [x12] s50 (fun r80 s81 => bindO (vCmp (Try.prog.underlying 3) .eql r80 a0) fun x82 => hcond x82 (HC Try.prog 25 [x12, (.lit (.string { data := #[98] }))] s81 (fun r83 s84 => bindO (vCmp (Try.prog.underlying 28) .eql r83 (.lit (.int .i64 0))) fun x85 => hcond x85 (HC Try.prog 21 [x12] s84 (fun r86 s87 => bindO (vCmp (Try.prog.underlying 3) .eql r86 r46) fun x88 => hcond x88 (HC Try.prog 11 [] s87 (fun r89 s90 => Q r89 s90)) (Q (.lit (.bool false)) s87))) (Q (.lit (.bool false)) s84))) (Q (.lit (.bool false)) s81)))))))))))))))
/-- cordwain/cordwainlaw4.DiskSafe -/
def c7 (a0 a1 a2 a3 : HV) (s : HS) (Q : HV → HS → Prop) : Prop :=
  Join (fun K1 => HC Try.prog 26 [a1] s (fun r4 s5 => bindO (vUn .not r4) fun x6 => hcond x6 (K1 [(.lit (.bool true))] s5) (bindO (vLenT (Try.prog.underlying 22) s5 a0) fun x7 => bindO (vBin .gtr x7 (.lit (.int .i64 300))) fun x8 => hcond x8 (K1 [(.lit (.bool true))] s5) (bindO (vLenT (Try.prog.underlying 24) s5 a3) fun x9 => bindO (vBin .gtr x9 (.lit (.int .i64 60))) fun x10 => hcond x10 (K1 [(.lit (.bool true))] s5) (bindO (vBin .lss a2 (.lit (.int .i64 0))) fun x11 => K1 [x11] s5))))) (fun y2 s3 => hcond (y2.headD .junk) (HC Try.prog 11 [] s3 (fun r12 s13 => Q r12 s13)) (HC Try.prog 12 [(.lit (.int .i64 1048576))] s3 (fun r14 s15 => bindO (vExtract r14 0) fun x16 => bindO (vExtract r14 1) fun x17 => Join (fun K18 => bindO (vCmp (Try.prog.underlying 28) .neq x17 (.lit (.int .i64 0))) fun x21 => hcond x21 (K18 [(.lit (.bool true))] s15) (bindO (vCmp (Try.prog.underlying 27) .eql x16 (.lit (.pointer none))) fun x22 => K18 [x22] s15)) (fun y19 s20 => hcond (y19.headD .junk) (Q (.lit (.bool false)) s20) (Join (fun K23 => HC Try.prog 13 [x16, (.lit (.string { data := #[115, 97, 102, 101] })), a0] s20 (fun r26 s27 => bindO (vCmp (Try.prog.underlying 28) .neq r26 (.lit (.int .i64 0))) fun x28 => hcond x28 (K23 [(.lit (.bool true))] s27) (HC Try.prog 14 [x16, (.lit (.string { data := #[115, 97, 102, 101] }))] s27 (fun r29 s30 => bindO (vCmp (Try.prog.underlying 28) .neq r29 (.lit (.int .i64 0))) fun x31 => hcond x31 (K23 [(.lit (.bool true))] s30) (HC Try.prog 15 [x16] s30 (fun r32 s33 => bindO (vCmp (Try.prog.underlying 28) .neq r32 (.lit (.int .i64 0))) fun x34 => K23 [x34] s33)))))) (fun y24 s25 => hcond (y24.headD .junk) (Q (.lit (.bool false)) s25) (HC Try.prog 27 [x16, a2] s25 (fun r35 s36 => HC Try.prog 28 [(.lit (.int .i64 1048576))] s36 (fun r37 s38 => bindO (vExtract r37 0) fun x39 => bindO (vExtract r37 1) fun x40 => HLoop (fun y42 s43 K41 => bindO (vLenT (Try.prog.underlying 48) s43 a1) fun x44 => bindO (vBin .lss (y42.headD .junk) x44) fun x45 => hcond x45 (Join (fun K46 => bindO (vIdx 5 a1 (y42.headD .junk)) fun x49 => bindO (vLoad s43 x49 5 true) fun x50 => hNew s43 (.cells [.lit (.int .i64 0), .lit (.string .empty), .lit (.string .empty), .lit (.slice none 0 0), .lit (.int .i64 0)]) (fun id => .ptr id 0) (fun x51 s52 => hStore s52 x51 x50 5 (fun s53 => Join (fun K54 => bindO (vField 1 x51) fun x57 => bindO (vLoad s53 x57 1 false) fun x58 => bindO (vCmp (Try.prog.underlying 9) .eql x58 (.lit (.string { data := #[115, 97, 102, 101] }))) fun x59 => hcond x59 (K54 [(.lit (.bool true))] s53) (bindO (vField 2 x51) fun x60 => bindO (vLoad s53 x60 1 false) fun x61 => bindO (vCmp (Try.prog.underlying 9) .eql x61 (.lit (.string { data := #[115, 97, 102, 101] }))) fun x62 => hcond x62 (K54 [(.lit (.bool true))] s53) (bindO (vField 0 x51) fun x63 => bindO (vLoad s53 x63 1 false) fun x64 => bindO (vCmp (Try.prog.underlying 3) .eql x64 (.lit (.int .i64 7))) fun x65 => K54 [x65] s53))) (fun y55 s56 => hcond (y55.headD .junk) (K46 [] s56) (bindO (vLoad s56 x51 5 true) fun x66 => HC Try.prog 29 [x16, x39, x66] s56 (fun r67 s68 => K46 [] s68)))))) (fun y47 s48 => bindO (vBin .add (y42.headD .junk) (.lit (.int .i64 1))) fun x69 => K41 [x69] s48)) (HC Try.prog 16 [x16, a3] s43 (fun r70 s71 => bindO (vCmp (Try.prog.underlying 27) .eql r70 (.lit (.pointer none))) fun x72 => hcond x72 (Q (.lit (.bool false)) s71) (HC Try.prog 17 [r70, (.lit (.string { data := #[115, 97, 102, 101] }))] s71 (fun r73 s74 => bindO (vExtract r73 0) fun x75 => bindO (vExtract r73 1) fun x76 => bindO (vCmp (Try.prog.underlying 28) .eql x76 (.lit (.int .i64 0))) fun x77 => hcond x77 (bindO ((if isStrHV x75 then none else vToStr s74 x75)) fun x78 => bindO ((if isStrHV a0 then none else vToStr s74 a0)) fun x79 => bindO (vCmp (Try.prog.underlying 9) .eql x78 x79) fun x80 => hcond x80 (hBS s74 1 1 [.lit (.int .u8 0)] [(0, (.lit (.int .u8 120)))] (fun x81 s82 => hMark s82 x81 (fun x83 s84 => HC Try.prog 13 [r70, (.lit (.string { data := #[115, 97, 102, 101] })), x83] s84 (fun r85 s86 => bindO (vCmp (Try.prog.underlying 28) .eql r85 (.lit (.int .i64 0))) fun x87 => hcond x87 (HC Try.prog 11 [] s86 (fun r88 s89 => Q r88 s89)) (Q (.lit (.bool false)) s86))))) (Q (.lit (.bool false)) s74)) (Q (.lit (.bool false)) s74)))))) [(.lit (.int .i64 0))] s38)))))))))
/-- cordwain/cordwainlaw4.DiskCrash -/
def c9 (a0 a1 a2 a3 a4 : HV) (s : HS) (Q : HV → HS → Prop) : Prop :=
  Join (fun K1 => HC Try.prog 26 [a1] s (fun r4 s5 => bindO (vUn .not r4) fun x6 => hcond x6 (K1 [(.lit (.bool true))] s5) (HC Try.prog 26 [a3] s5 (fun r7 s8 => bindO (vUn .not r7) fun x9 => hcond x9 (K1 [(.lit (.bool true))] s8) (bindO (vLenT (Try.prog.underlying 24) s8 a2) fun x10 => bindO (vBin .gtr x10 (.lit (.int .i64 60))) fun x11 => hcond x11 (K1 [(.lit (.bool true))] s8) (bindO (vLenT (Try.prog.underlying 24) s8 a4) fun x12 => bindO (vBin .gtr x12 (.lit (.int .i64 60))) fun x13 => hcond x13 (K1 [(.lit (.bool true))] s8) (bindO (vBin .lss a0 (.lit (.int .i64 0))) fun x14 => hcond x14 (K1 [(.lit (.bool true))] s8) (bindO (vBin .gtr a0 (.lit (.int .i64 1099511627776))) fun x15 => K1 [x15] s8)))))))) (fun y2 s3 => hcond (y2.headD .junk) (HC Try.prog 11 [] s3 (fun r16 s17 => Q r16 s17)) (HC Try.prog 12 [a0] s3 (fun r18 s19 => bindO (vExtract r18 0) fun x20 => bindO (vExtract r18 1) fun x21 => HC Try.prog 28 [a0] s19 (fun r22 s23 => bindO (vExtract r22 0) fun x24 => bindO (vExtract r22 1) fun x25 => Join (fun K26 => bindO (vCmp (Try.prog.underlying 28) .neq x21 (.lit (.int .i64 0))) fun x29 => hcond x29 (K26 [(.lit (.bool true))] s23) (bindO (vCmp (Try.prog.underlying 27) .eql x20 (.lit (.pointer none))) fun x30 => hcond x30 (K26 [(.lit (.bool true))] s23) (bindO (vCmp (Try.prog.underlying 51) .eql x24 (.lit (.pointer none))) fun x31 => K26 [x31] s23))) (fun y27 s28 => hcond (y27.headD .junk) (Q (.lit (.bool false)) s28) (HLoop (fun y33 s34 K32 => bindO (vLenT (Try.prog.underlying 48) s34 a1) fun x35 => bindO (vBin .lss (y33.headD .junk) x35) fun x36 => hcond x36 (bindO (vIdx 5 a1 (y33.headD .junk)) fun x37 => bindO (vLoad s34 x37 5 true) fun x38 => HC Try.prog 29 [x20, x24, x38] s34 (fun r39 s40 => bindO (vExtract r39 0) fun x41 => bindO (vExtract r39 1) fun x42 => bindO (vCmp (Try.prog.underlying 3) .neq x41 x42) fun x43 => hcond x43 (Q (.lit (.bool false)) s40) (bindO (vBin .add (y33.headD .junk) (.lit (.int .i64 1))) fun x44 => K32 [x44] s40))) (HC Try.prog 16 [x20, a2] s34 (fun r45 s46 => HC Try.prog 33 [x24, a2] s46 (fun r47 s48 => Join (fun K49 => HC Try.prog 30 [r45, r47] s48 (fun r52 s53 => bindO (vUn .not r52) fun x54 => hcond x54 (K49 [(.lit (.bool true))] s53) (HC Try.prog 30 [x20, x24] s53 (fun r55 s56 => bindO (vUn .not r55) fun x57 => K49 [x57] s56)))) (fun y50 s51 => hcond (y50.headD .junk) (Q (.lit (.bool false)) s51) (HLoop (fun y59 s60 K58 => bindO (vLenT (Try.prog.underlying 48) s60 a3) fun x61 => bindO (vBin .lss (y59.headD .junk) x61) fun x62 => hcond x62 (bindO (vIdx 5 a3 (y59.headD .junk)) fun x63 => bindO (vLoad s60 x63 5 true) fun x64 => HC Try.prog 29 [r45, r47, x64] s60 (fun r65 s66 => bindO (vExtract r65 0) fun x67 => bindO (vExtract r65 1) fun x68 => bindO (vCmp (Try.prog.underlying 3) .neq x67 x68) fun x69 => hcond x69 (Q (.lit (.bool false)) s66) (bindO (vBin .add (y59.headD .junk) (.lit (.int .i64 1))) fun x70 => K58 [x70] s66))) (HC Try.prog 16 [r45, a4] s60 (fun r71 s72 => HC Try.prog 33 [r47, a4] s72 (fun r73 s74 => HC Try.prog 30 [r71, r73] s74 (fun r75 s76 => hcond r75 (HC Try.prog 30 [r45, r47] s76 (fun r77 s78 => hcond r77 (HC Try.prog 11 [] s78 (fun r79 s80 => Q r79 s80)) (Q (.lit (.bool false)) s78))) (Q (.lit (.bool false)) s76)))))) [(.lit (.int .i64 0))] s51)))))) [(.lit (.int .i64 0))] s28))))))
theorem c9_eq (a0 a1 a2 a3 a4 : HV) (s : HS) (Q : HV → HS → Prop) : (match Try.f9.body with | some c => hwp Try.prog (fun p => if p = 6 then some [48] else if p = 62 then some [69] else if p = 506 then some [15] else if p = 510 then some [104] else if p = 4090 then some [20] else none) false 1 c (hretQ Try.prog Try.f9.results.toList Q) (([a0, a1, a2, a3, a4] : List HV) ++ List.replicate (Try.f9.ntmps - 5) (.lit undef)) s | none => False) = c9 a0 a1 a2 a3 a4 s Q := by kernel_rfl
theorem HC9 {a0 a1 a2 a3 a4 : HV} {s : HS} {Q : HV → HS → Prop} (h : c9 a0 a1 a2 a3 a4 s Q) : HC Try.prog 9 [a0, a1, a2, a3, a4] s Q := HC_by Try.func9 (by have := c9_eq a0 a1 a2 a3 a4 s Q; exact this.mpr h)
end Go.Proofs.Ythfoanmokcepcaa.X0
end
section
namespace Go.Proofs.Ythfoanmokcepcaa.H
open Go.RowKit Go.MapKept
set_option linter.unusedVariables false
set_option linter.unusedSimpArgs false
variable {P : Program} {s : HS}
def IsTok : HObj → Prop
  | .tok _ _ _ => True
  | _ => False
/-- But for a token, all that t knows t' knows. -/
structure Near (idl : Nat) (t t' : HS) : Prop where
  tok : ∀ ob, t idl = some ob → IsTok ob
  rest : ∀ k ob, k ≠ idl → t k = some ob → t' k = some ob
theorem Near.ob {idl : Nat} {t t' : HS} (h : Near idl t t') {k : Nat} {ob : HObj} (hk : t k = some ob) (ho : ¬ IsTok ob) : t' k = some ob :=
  h.rest k ob (by rintro rfl; exact ho (h.tok _ hk)) hk
theorem Near.cells {idl : Nat} {t t' : HS} (h : Near idl t t') {k : Nat} {cs : List HV} (hk : t k = some (.cells cs)) : t' k = some (.cells cs) := h.ob hk (fun h => h)
theorem Near.map {idl : Nat} {t t' : HS} (h : Near idl t t') {k : Nat} {d : TypeDesc} {f : Value → Option HV} {n : Nat} (hk : t k = some (.map d f n)) : t' k = some (.map d f n) := h.ob hk (fun h => h)
theorem Near.le {idl : Nat} {b t t' : HS} (h : Near idl t t') (hb : HS.le b t) (hn : b idl = none) : HS.le b t' := fun k ob hk => h.rest k ob (by rintro rfl; rw [hn] at hk; cases hk) (hb k ob hk)
theorem Near.acc {idl : Nat} {b t t' : HS} {sz : Nat} {A : HV} {n : Nat} {cs : List HV} (h : Near idl t t') (ha : Acc b t sz A n cs) : Acc b t' sz A n cs := ha.keep fun q ob hq hob => by
  have := (ha.free hq).2
  rw [hob] at this
  cases this
  exact h.cells hob
/-- What a round is given may be told otherwise. -/
theorem HY.upArgs {id : Nat} {args args' : List HV} {s s' : HS} {K : HV → HS → Prop} (hu : UpL args s args' s') (h : HY P id args' s' K) : HY P id args s K := by
  intro m w cargs l hR hl hn ha
  obtain ⟨m', g1, g2, g3, g4⟩ := hu m w cargs.toList hR ⟨by simpa using hn, fun j x hj => by have := ha j x hj; simpa [List.getD, Array.getD_eq_getD_getElem?] using this⟩
  obtain ⟨fn, tmps, asg, body, h1, h2⟩ := h m' w cargs l g2 (g1.loc _ _ hl) (by simpa using g3) (fun j x hj => by have := g4 j x hj; simpa [List.getD, Array.getD_eq_getD_getElem?] using this)
  refine ⟨fn, tmps, asg, body, h1, RoundIn.mono h2 ?_⟩
  rintro e w' ⟨cv, v, s'', m'', k1, k2, k3, k4, k5⟩
  exact ⟨cv, v, s'', m'', k1, g1.trans k2, k3, k4, k5⟩
/-- Function f, which captures caps, gives yield the rows enc 0 .. enc (n-1), one behind the other, till it says no. -/
def Gives (P : Program) (f : FuncId) (caps : List HV) (n : Nat) (enc : Nat → List HV) (s : HS) : Prop :=
  ∀ (idl : Nat) (J : Nat → HS → Prop) (E : HS → Prop) (s' : HS), HS.le s s' → (∀ i t t', J i t → HS.le t t' → J i t') →
    (∀ (i : Nat) (t : HS) (K : HV → HS → Prop), i < n → J i t → (∀ t', J (i + 1) t' → K (.lit (.bool true)) t') → (∀ t', E t' → K (.lit (.bool false)) t') → HY P idl (enc i) t K) →
    J 0 s' → HC P f (.yld idl :: caps) s' fun v t => J n t ∨ E t
theorem Gives.le {f : FuncId} {caps : List HV} {n : Nat} {enc : Nat → List HV} {s' : HS} (h : Gives P f caps n enc s) (hle : HS.le s s') : Gives P f caps n enc s' :=
  fun idl J E s2 h2 => h idl J E s2 (fun k ob hk => h2 k ob (hle k ob hk))
theorem HRange.seq {f : FuncId} {caps env : List HV} {n n1 : Nat} {enc : Nat → List HV} {B : (HS → (HS → Prop) → Prop) → List HV → HS → (Exit → HS → Prop) → Prop} {Qn Qr : HS → Prop} {Qx : Nat → HS → Prop}
    (hp : plainFn P f = true) (it : Gives P f caps n enc s) (hl : ∀ i, i < n → (enc i).length = n1) (I : Nat → HS → Prop) (Er : HS → Prop) (Ex : Nat → HS → Prop)
    (hI : ∀ idl i t t', s idl = none → Near idl t t' → I i t → I i t') (hEr : ∀ idl t t', s idl = none → Near idl t t' → Er t → Er t') (hEx : ∀ idl i t t', s idl = none → Near idl t t' → Ex i t → Ex i t')
    (h0 : I 0 s) (hn : ∀ t, I n t → Qn t) (hr : ∀ t, Er t → Qr t) (hx : ∀ i t, Ex i t → Qx i t)
    (round : ∀ (i : Nat) (t : HS) (idl : Nat) (R0 R1 : HObj) (K : Exit → HS → Prop), i < n → s idl = none → t idl = some R0 → I i t → (∀ t', t' idl = some R1 → I (i + 1) t' → K .normal t') →
      (∀ t', t' idl = some R1 → Er t' → K .ret t') → (∀ j t', t' idl = some R1 → Ex j t' → K (.exit j) t') → IsTok R0 → IsTok R1 → B (fun t' G => t' idl = some R0 ∧ G (t'.set idl R1)) (enc i) t K) :
    HRange P (.func (.func f) caps) n1 env B s Qn Qr Qx := by
  unfold HRange
  simp only
  rw [hite_eq, if_pos hp]
  intro idl r hid hrounds
  have near : ∀ {t t' : HS} {st : Option (Option Code)}, t idl = some (.tok r env st) → (∀ k ob, k ≠ idl → t k = some ob → t' k = some ob) → Near idl t t' := fun h1 h2 => ⟨fun ob ho => by rw [h1] at ho; cases ho; exact True.intro, h2⟩
  have setN : ∀ (t : HS) (o : HObj) k ob, k ≠ idl → t k = some ob → (t.set idl o) k = some ob := fun t o k ob hk h => by simp only [HS.set, if_neg hk]; exact h
  have delN : ∀ (t : HS) k ob, k ≠ idl → t k = some ob → (t.del idl) k = some ob := fun t k ob hk h => by simp only [HS.del, if_neg hk]; exact h
  refine (it idl (fun i t => t idl = some (.tok r env (some none)) ∧ I i t) (fun t => (t idl = some (.tok r env (some (some .ret))) ∧ Er t) ∨ ∃ i, t idl = some (.tok r env (some (some (.exit i)))) ∧ Ex i t) (s.set idl (.tok r env (some none))) ?_ ?_ ?_ ?_).mono ?_
  · intro k ob hk
    exact setN s _ k ob (by rintro rfl; rw [hid] at hk; cases hk) hk
  · rintro i t t' ⟨h1, h2⟩ hle
    exact ⟨hle _ _ h1, hI idl i t t' hid (near h1 fun k ob _ hk => hle k ob hk) h2⟩
  · rintro i t K hi ⟨h1, h2⟩ hT hF
    refine hrounds (enc i) t K h1 (hl i hi) ?_
    refine round i t idl _ _ _ hi hid h1 h2 (fun t' g1 g2 => ⟨g1, ?_⟩) (fun t' g1 g2 => ⟨g1, ?_⟩) (fun j t' g1 g2 => ⟨g1, ?_⟩) True.intro True.intro
    · exact hT _ ⟨by simp [HS.set], hI idl _ _ _ hid (near g1 (setN t' _)) g2⟩
    · exact hF _ (.inl ⟨by simp [HS.set], hEr idl _ _ hid (near g1 (setN t' _)) g2⟩)
    · exact hF _ (.inr ⟨j, by simp [HS.set], hEx idl _ _ _ hid (near g1 (setN t' _)) g2⟩)
  · exact ⟨by simp [HS.set], hI idl 0 s _ hid ⟨fun ob ho => (by rw [hid] at ho; cases ho), setN s _⟩ h0⟩
  · rintro v t (⟨h1, h2⟩ | ⟨h1, h2⟩ | ⟨i, h1, h2⟩)
    · exact .inl ⟨h1, hn _ (hI idl _ _ _ hid (near h1 (delN t)) h2)⟩
    · exact .inr (.inl ⟨h1, hr _ (hEr idl _ _ hid (near h1 (delN t)) h2)⟩)
    · exact .inr (.inr ⟨i, h1, hx _ _ (hEx idl _ _ _ hid (near h1 (delN t)) h2)⟩)
/-- So does it, when what it reads lies still. -/
def GivesL (P : Program) (f : FuncId) (caps : List HV) (n : Nat) (enc : Nat → List HV) (s : HS) : Prop :=
  ∀ (idl : Nat) (J : Nat → HS → Prop) (E : HS → Prop) (s' : HS), HS.le s s' → (∀ i t t', J i t → HS.le t t' → J i t') → (∀ i t, J i t → HS.le s t) →
    (∀ (i : Nat) (t : HS) (K : HV → HS → Prop), i < n → J i t → (∀ t', J (i + 1) t' → K (.lit (.bool true)) t') → (∀ t', E t' → K (.lit (.bool false)) t') → HY P idl (enc i) t K) →
    J 0 s' → HC P f (.yld idl :: caps) s' fun v t => J n t ∨ E t
theorem Gives.toL {f : FuncId} {caps : List HV} {n : Nat} {enc : Nat → List HV} (h : Gives P f caps n enc s) : GivesL P f caps n enc s := fun idl J E s' h1 h2 _ h3 h4 => h idl J E s' h1 h2 h3 h4
theorem HRange.seqL {f : FuncId} {caps env : List HV} {n n1 : Nat} {enc : Nat → List HV} {B : (HS → (HS → Prop) → Prop) → List HV → HS → (Exit → HS → Prop) → Prop} {Qn Qr : HS → Prop} {Qx : Nat → HS → Prop}
    (hp : plainFn P f = true) {s0 : HS} (hs0 : HS.le s0 s) (it : GivesL P f caps n enc s0) (hl : ∀ i, i < n → (enc i).length = n1) (I : Nat → HS → Prop) (Er : HS → Prop) (Ex : Nat → HS → Prop)
    (hIs : ∀ i t, I i t → HS.le s0 t) (hI : ∀ idl i t t', s idl = none → Near idl t t' → I i t → I i t') (hEr : ∀ idl t t', s idl = none → Near idl t t' → Er t → Er t') (hEx : ∀ idl i t t', s idl = none → Near idl t t' → Ex i t → Ex i t')
    (h0 : I 0 s) (hn : ∀ t, I n t → Qn t) (hr : ∀ t, Er t → Qr t) (hx : ∀ i t, Ex i t → Qx i t)
    (round : ∀ (i : Nat) (t : HS) (idl : Nat) (R0 R1 : HObj) (K : Exit → HS → Prop), i < n → s idl = none → t idl = some R0 → I i t → (∀ t', t' idl = some R1 → I (i + 1) t' → K .normal t') →
      (∀ t', t' idl = some R1 → Er t' → K .ret t') → (∀ j t', t' idl = some R1 → Ex j t' → K (.exit j) t') → IsTok R0 → IsTok R1 → B (fun t' G => t' idl = some R0 ∧ G (t'.set idl R1)) (enc i) t K) :
    HRange P (.func (.func f) caps) n1 env B s Qn Qr Qx := by
  unfold HRange
  simp only
  rw [hite_eq, if_pos hp]
  intro idl r hid hrounds
  have near : ∀ {t t' : HS} {st : Option (Option Code)}, t idl = some (.tok r env st) → (∀ k ob, k ≠ idl → t k = some ob → t' k = some ob) → Near idl t t' := fun h1 h2 => ⟨fun ob ho => by rw [h1] at ho; cases ho; exact True.intro, h2⟩
  have setN : ∀ (t : HS) (o : HObj) k ob, k ≠ idl → t k = some ob → (t.set idl o) k = some ob := fun t o k ob hk h => by simp only [HS.set, if_neg hk]; exact h
  have delN : ∀ (t : HS) k ob, k ≠ idl → t k = some ob → (t.del idl) k = some ob := fun t k ob hk h => by simp only [HS.del, if_neg hk]; exact h
  refine (it idl (fun i t => t idl = some (.tok r env (some none)) ∧ I i t) (fun t => (t idl = some (.tok r env (some (some .ret))) ∧ Er t) ∨ ∃ i, t idl = some (.tok r env (some (some (.exit i)))) ∧ Ex i t) (s.set idl (.tok r env (some none))) ?_ ?_ (fun i t h => hIs i t h.2) ?_ ?_).mono ?_
  · intro k ob hk0
    have hk := hs0 k ob hk0
    exact setN s _ k ob (by rintro rfl; rw [hid] at hk; cases hk) hk
  · rintro i t t' ⟨h1, h2⟩ hle
    exact ⟨hle _ _ h1, hI idl i t t' hid (near h1 fun k ob _ hk => hle k ob hk) h2⟩
  · rintro i t K hi ⟨h1, h2⟩ hT hF
    refine hrounds (enc i) t K h1 (hl i hi) ?_
    refine round i t idl _ _ _ hi hid h1 h2 (fun t' g1 g2 => ⟨g1, ?_⟩) (fun t' g1 g2 => ⟨g1, ?_⟩) (fun j t' g1 g2 => ⟨g1, ?_⟩) True.intro True.intro
    · exact hT _ ⟨by simp [HS.set], hI idl _ _ _ hid (near g1 (setN t' _)) g2⟩
    · exact hF _ (.inl ⟨by simp [HS.set], hEr idl _ _ hid (near g1 (setN t' _)) g2⟩)
    · exact hF _ (.inr ⟨j, by simp [HS.set], hEx idl _ _ _ hid (near g1 (setN t' _)) g2⟩)
  · exact ⟨by simp [HS.set], hI idl 0 s _ hid ⟨fun ob ho => (by rw [hid] at ho; cases ho), setN s _⟩ h0⟩
  · rintro v t (⟨h1, h2⟩ | ⟨h1, h2⟩ | ⟨i, h1, h2⟩)
    · exact .inl ⟨h1, hn _ (hI idl _ _ _ hid (near h1 (delN t)) h2)⟩
    · exact .inr (.inl ⟨h1, hr _ (hEr idl _ _ hid (near h1 (delN t)) h2)⟩)
    · exact .inr (.inr ⟨i, h1, hx _ _ (hEx idl _ _ _ hid (near h1 (delN t)) h2)⟩)
end Go.Proofs.Ythfoanmokcepcaa.H
end
section
namespace Go.Proofs.Ythfoanmokcepcaa.H
open Go.RowKit Go.MapKept
set_option linter.unusedVariables false
set_option linter.unusedSimpArgs false
theorem put_rows {α : Type} {enc : α → List HV} {sz : Nat} (h : ∀ x, (enc x).length = sz) (v : α) (rest : List HV) : ∀ (l : List α) (i : Nat), i < l.length → putCells (rows enc l ++ rest) (i * sz) (enc v) = rows enc (l.set i v) ++ rest
  | x :: l, 0, _ => by
    simp only [putCells, Nat.zero_mul, List.take_zero, List.nil_append, Nat.zero_add, List.set_cons_zero, rows_cons, h, List.append_assoc]
    rw [List.drop_append, List.drop_of_length_le (by rw [h]; omega), List.nil_append, h, Nat.sub_self, List.drop_zero]
  | x :: l, i + 1, hi => by
    have ih := put_rows h v rest l i (by simpa using hi)
    simp only [putCells, List.set_cons_succ, rows_cons, List.append_assoc] at ih ⊢
    rw [← ih, Nat.add_mul, Nat.one_mul]
    rw [List.take_append, List.take_of_length_le (by rw [h]; omega), h, Nat.add_sub_cancel, List.append_assoc]
    congr 1
    congr 1
    congr 1
    rw [h, List.drop_append, List.drop_of_length_le (by rw [h]; omega), List.nil_append, h]
    congr 1
    omega
theorem idx_view {q off sz n : Nat} {f : Bool} {i : Nat} (k : IntKind) (hi : i < n) : vIdx sz (.view q off sz n f) (.lit (.int k i)) = some (.ptr q (off + i * sz)) := by
  have h1 : (i : Int) < (n : Int) := by omega
  simp [vIdx, h1]
theorem load_rows {α : Type} {enc : α → List HV} {sz : Nat} (h : ∀ x, (enc x).length = sz) (z : α) {s : HS} {q : Nat} {l : List α} {rest : List HV} (hq : s q = some (.cells (rows enc l ++ rest))) {i : Nat} (hi : i < l.length) :
    vLoad s (.ptr q (i * sz)) sz true = some (.agg (enc (l.getD i z))) := by
  have hl : (rows enc l).length = l.length * sz := rows_len h l
  have h2 : i * sz + sz ≤ l.length * sz := by
    have := Nat.mul_le_mul_right sz (show i + 1 ≤ l.length from hi)
    rw [Nat.add_mul, Nat.one_mul] at this
    exact this
  have h3 : ((rows enc l ++ rest).drop (i * sz)).take sz = enc (l.getD i z) := by
    rw [List.drop_append_of_le_length (by omega), List.take_append_of_le_length (by simp; omega)]
    exact rows_idx h z l i hi
  simp only [vLoad, hq, takeCells, if_true, h3]
  rw [if_pos (by rw [List.length_append]; omega)]
theorem load_rows1 {α : Type} {enc : α → List HV} {sz : Nat} (h : ∀ x, (enc x).length = sz) (z : α) {s : HS} {q : Nat} {l : List α} {rest : List HV} (hq : s q = some (.cells (rows enc l ++ rest))) {i j n : Nat} (hi : i < l.length) (hj : j < sz) :
    vLoad s (.ptr q (i * sz + j)) n false = (enc (l.getD i z))[j]? := by
  have h3 := rows_idx h z l i hi
  have hl : (rows enc l).length = l.length * sz := rows_len h l
  have h2 : i * sz + sz ≤ l.length * sz := by
    have := Nat.mul_le_mul_right sz (show i + 1 ≤ l.length from hi)
    rw [Nat.add_mul, Nat.one_mul] at this
    exact this
  simp only [vLoad, hq, takeCells, Bool.false_eq_true, if_false]
  rw [← h3, List.getElem?_take, if_pos hj, List.getElem?_drop, List.getElem?_append_left (by omega)]
theorem load_cell {t : HS} {q : Nat} {cs : List HV} (off n : Nat) (h : t q = some (.cells cs)) : vLoad t (.ptr q off) n false = cs[off]? := by simp [vLoad, takeCells, h]
theorem load_all {t : HS} {q n : Nat} {cs : List HV} (hn : cs.length = n) (h : t q = some (.cells cs)) : vLoad t (.ptr q 0) n true = some (.agg cs) := by
  subst hn
  simp [vLoad, takeCells, h]
/-- A value is put into a box of its size. -/
theorem store_all {s : HS} {q n : Nat} {cs vs : List HV} {K : HS → Prop} (hq : s q = some (.cells cs)) (hc : cs.length = n) (hv : vs.length = n) (ho : ∀ x ∈ vs, hone x = true) (h : K (s.set q (.cells vs))) : hStore s (.ptr q 0) (.agg vs) n K := by
  unfold hStore
  simp only [hcells, hq]
  refine ⟨hv, by omega, ho, ?_⟩
  have e : putCells cs 0 vs = vs := by
    unfold putCells
    rw [List.take_zero, List.nil_append, List.drop_of_length_le (by omega), List.append_nil]
  rw [e]
  exact h
/-- A new box that a value is put into. -/
theorem new_store {s : HS} {n : Nat} {zs vs : List HV} {K : HV → HS → Prop} (hz : zs.length = n) (hv : vs.length = n) (ho : ∀ x ∈ vs, hone x = true) (h : ∀ q, s q = none → K (.ptr q 0) (s.set q (.cells vs))) :
    hNew s (.cells zs) (fun id => .ptr id 0) (fun x t => hStore t x (.agg vs) n (fun t' => K x t')) := by
  intro q hq
  refine store_all (s := s.set q (.cells zs)) (by simp [HS.set]) hz hv ho ?_
  have : (s.set q (.cells zs)).set q (.cells vs) = s.set q (.cells vs) := by funext k; simp only [HS.set]; split <;> rfl
  rw [this]
  exact h q hq
theorem slice_view_hi {q off sz n : Nat} {f : Bool} {hi : Nat} (k : IntKind) (h1 : hi ≤ n) : vSlice sz (.view q off sz n f) none (some (.lit (.int k hi))) none = some (.view q off sz hi (f && hi == n)) := by
  have h3 : (hi : Int) ≤ (n : Int) := by omega
  simp [vSlice, cutAt, intAt, h3]
end Go.Proofs.Ythfoanmokcepcaa.H
end
section
namespace Go.Proofs.Ythfoanmokcepcaa.H
open Go.RowKit Go.MapKept
set_option linter.unusedVariables false
set_option linter.unusedSimpArgs false
variable {P : Program}
def idxI {α : Type} (p : α → Bool) (l : List α) : Int := match l.findIdx? p with | some i => (i : Int) | none => -1
theorem idxI_at {α : Type} {p : α → Bool} {l : List α} {i : Nat} (hi : i < l.length) (h : ∀ x ∈ l.take i, p x = false) (hp : p l[i] = true) : idxI p l = (i : Int) := by
  have : l.findIdx? p = some i := by
    rw [List.findIdx?_eq_some_iff_getElem]
    refine ⟨hi, hp, fun j hj => ?_⟩
    have := h l[j] (List.mem_take_iff_getElem.2 ⟨j, by omega, rfl⟩)
    simp [this]
  simp [idxI, this]
theorem idxI_none {α : Type} {p : α → Bool} {l : List α} (h : ∀ x ∈ l, p x = false) : idxI p l = -1 := by
  have : l.findIdx? p = none := List.findIdx?_eq_none_iff.2 h
  simp [idxI, this]
theorem idxI_cases {α : Type} (p : α → Bool) (l : List α) : (idxI p l = -1 ∧ ∀ x ∈ l, p x = false) ∨ ∃ i, ∃ hi : i < l.length, idxI p l = (i : Int) ∧ p l[i] = true ∧ ∀ x ∈ l.take i, p x = false := by
  cases h : l.findIdx? p with
  | none => exact .inl ⟨by simp [idxI, h], List.findIdx?_eq_none_iff.1 h⟩
  | some i =>
    rw [List.findIdx?_eq_some_iff_getElem] at h
    obtain ⟨hi, hp, hj⟩ := h
    have ht : ∀ x ∈ l.take i, p x = false := fun x hx => by
      obtain ⟨j, hj1, rfl⟩ := List.mem_take_iff_getElem.1 hx
      have := hj j (by omega)
      simpa using this
    exact .inr ⟨i, hi, idxI_at hi ht hp, hp, ht⟩
theorem getD_get {α : Type} (z : α) (l : List α) {i : Nat} (h : i < l.length) : l.getD i z = l[i] := by simp [List.getD, h]
end Go.Proofs.Ythfoanmokcepcaa.H
end
section
namespace Go.Proofs.Ythfoanmokcepcaa.H
open Go.RowKit Go.MapKept
set_option linter.unusedVariables false
set_option linter.unusedSimpArgs false
variable {P : Program}
/-- A row that grows and shrinks: behind it there may be cells. -/
def AccX (b t : HS) (sz : Nat) (A : HV) (n : Nat) (cs : List HV) : Prop :=
  (A = nilV ∧ cs = [] ∧ n = 0) ∨ ∃ q f rest k, b q = none ∧ A = .view q 0 sz n f ∧ t q = some (.cells (cs ++ rest)) ∧ cs.length = n * sz ∧ rest.length = k * sz
theorem Acc.toX {b t : HS} {sz : Nat} {A : HV} {n : Nat} {cs : List HV} (h : Acc b t sz A n cs) : AccX b t sz A n cs := by
  rcases h with h | ⟨q, f, h1, h2, h3, h4, h5⟩
  · exact .inl h
  · exact .inr ⟨q, f, [], 0, h1, h2, by rw [List.append_nil]; exact h3, h4, by simp⟩
theorem AccX.one {b t : HS} {sz : Nat} {A : HV} {n : Nat} {cs : List HV} (h : AccX b t sz A n cs) : hone A = true := by
  rcases h with ⟨rfl, -⟩ | ⟨q, f, r, k, -, rfl, -⟩ <;> rfl
theorem AccX.hc {b t : HS} {sz : Nat} {A : HV} {n : Nat} {cs : List HV} (h : AccX b t sz A n cs) : hcells A = some [A] := by
  rcases h with ⟨rfl, -⟩ | ⟨q, f, r, k, -, rfl, -⟩ <;> rfl
theorem AccX.len {b t : HS} {sz : Nat} {A : HV} {n : Nat} {cs : List HV} (h : AccX b t sz A n cs) (e : Nat) (s : HS) : vLenT (some (.slice e)) s A = some (.lit (.int .i64 n)) := by
  rcases h with ⟨rfl, -, rfl⟩ | ⟨q, f, r, k, -, rfl, -⟩ <;> rfl
theorem AccX.free {b t : HS} {sz : Nat} {A : HV} {n : Nat} {cs : List HV} (h : AccX b t sz A n cs) {q : Nat} (hq : accId A = some q) : b q = none ∧ ∃ rest, t q = some (.cells (cs ++ rest)) := by
  rcases h with ⟨rfl, -⟩ | ⟨q', f, r, k, h1, rfl, h2, -⟩
  · cases hq
  · cases hq; exact ⟨h1, r, h2⟩
theorem AccX.keep {b t t' : HS} {sz : Nat} {A : HV} {n : Nat} {cs : List HV} (h : AccX b t sz A n cs) (hk : ∀ q ob, accId A = some q → t q = some ob → t' q = some ob) : AccX b t' sz A n cs := by
  rcases h with h | ⟨q, f, r, k, h1, rfl, h2, h3⟩
  · exact .inl h
  · exact .inr ⟨q, f, r, k, h1, rfl, hk q _ rfl h2, h3⟩
theorem AccX.le {b t t' : HS} {sz : Nat} {A : HV} {n : Nat} {cs : List HV} (h : AccX b t sz A n cs) (hle : HS.le t t') : AccX b t' sz A n cs := h.keep fun q ob _ hq => hle _ _ hq
theorem AccX.new {b t : HS} {sz : Nat} {A : HV} {n : Nat} {cs : List HV} (h : AccX b t sz A n cs) {X : Nat} (o : HObj) (hX : t X = none) : AccX b (t.set X o) sz A n cs :=
  h.keep fun q ob _ hq => by rw [set_ne _ _ (ne_new hq hX)]; exact hq
theorem AccX.put {b t : HS} {sz : Nat} {A : HV} {n : Nat} {cs : List HV} (h : AccX b t sz A n cs) {X : Nat} (o : HObj) (hX : accId A ≠ some X) : AccX b (t.set X o) sz A n cs :=
  h.keep fun q ob hq hq2 => by rw [set_ne _ _ (by rintro rfl; exact hX hq)]; exact hq2
theorem AccX.base {b b' t : HS} {sz : Nat} {A : HV} {n : Nat} {cs : List HV} (h : AccX b t sz A n cs) (hle : HS.le b' b) : AccX b' t sz A n cs := by
  rcases h with h | ⟨q, f, r, k, h1, h2⟩
  · exact .inl h
  · exact .inr ⟨q, f, r, k, none_of_le hle h1, h2⟩
theorem AccX.cells {b t : HS} {sz : Nat} {A : HV} {n : Nat} {cs : List HV} (h : AccX b t sz A n cs) : lcells t sz A = some cs := by
  rcases h with ⟨rfl, rfl, rfl⟩ | ⟨q, f, r, k, h1, rfl, h3, h4, h5⟩
  · rfl
  · have e : (cs ++ r).take (n * sz) = cs := by rw [← h4]; exact List.take_left
    simp [lcells, h3, h4, e]
theorem AccX.llen {b t : HS} {sz : Nat} {A : HV} {n : Nat} {cs : List HV} (h : AccX b t sz A n cs) : llen A = n := by
  rcases h with ⟨rfl, rfl, rfl⟩ | ⟨q, f, r, k, h1, rfl, h3, h4, h5⟩ <;> rfl
/-- One more behind it. -/
theorem AccX.app1W {b t : HS} {sz by_ : Nat} {A : HV} {n : Nat} {cs zs : List HV} {W : HS → Prop} {K : HV → HS → Prop} (h : AccX b t sz A n cs) (hb : HS.le b t) (hsz : 0 < sz) {x : HV} {vs : List HV} (hx : hcells x = some vs) (hv : vs.length = sz) (hz : zs.length = sz)
    (hroom : room (n + 1) by_) (hW : ∀ id, t id = none → W (t.set id (.cells vs)))
    (hK : ∀ A' t', AccX b t' sz A' (n + 1) (cs ++ vs) → HS.le b t' → (∀ q ob, accId A ≠ some q → t q = some ob → t' q = some ob ∧ accId A' ≠ some q) → K A' t') : hBS t sz 1 zs [(0, x)] (fun v s => W s ∧ hAppend s sz by_ A v K) := by
  have hf : hfill (fun i => some (i * sz, sz)) zs [(0, x)] = some vs := by
    simp only [hfill, hx, Nat.zero_mul, Nat.zero_add, hv, hz, Nat.le_refl, and_self, if_true, List.take_zero, List.nil_append]
    rw [List.drop_of_length_le (by omega), List.append_nil]
  unfold hBS
  rw [hf]
  intro X hX
  refine ⟨hW X hX, ?_⟩
  have hlx : lcells (t.set X (.cells vs)) sz (.view X 0 sz 1 true) = some vs := by simp [lcells, set_at, hv, List.take_of_length_le]
  rcases h with ⟨rfl, rfl, rfl⟩ | ⟨q, f, r, k, h1, rfl, h3, h4, h5⟩
  · refine (Acc.nil b (t.set X (.cells vs)) sz).app (le_set_new _ hb hX) (xs := vs) (k := 1) hlx rfl (by omega) hroom ?_
    intro A' t' g1 g2 g3
    exact hK A' t' g1.toX g2 fun p ob hp hp2 => g3 p ob hp (by rw [set_ne _ _ (ne_new hp2 hX)]; exact hp2)
  · have nX : q ≠ X := ne_new h3 hX
    have h3' : (t.set X (.cells vs)) q = some (.cells (cs ++ r)) := by rw [set_ne _ _ nX]; exact h3
    have hle := le_set_new (.cells vs) hb hX
    have hfree : ∀ p ob, t p = some ob → (t.set X (.cells vs)) p = some ob := fun p ob hp => by rw [set_ne _ _ (ne_new hp hX)]; exact hp
    generalize t.set X (.cells vs) = u at *
    have hcut : ((cs ++ r).drop 0).take (n * sz) = cs := by rw [List.drop_zero, ← h4]; exact List.take_left
    unfold hAppend
    rw [hlx]
    have hll : Go.Proofs.Ythfoanmokcepcaa.H.llen (.view X 0 sz 1 true) = 1 := rfl
    simp only [h3', hll]
    refine ⟨trivial, by rw [List.length_append]; omega, ?_⟩
    cases f with
    | true =>
      simp only [if_true]
      rw [if_neg (show ¬ (1 = 0) by omega)]
      refine ⟨hroom, fun id hid => ?_⟩
      rw [hcut]
      refine hK _ _ (.inr ⟨id, _, [], 0, none_of_le hle hid, rfl, by rw [set_at, List.append_nil], by rw [List.length_append, h4, hv, Nat.add_mul, Nat.one_mul], by simp⟩) (le_set_new _ hle hid) fun p ob hp hp2 => ?_
      have hp3 := hfree p ob hp2
      have := ne_new hp3 hid
      exact ⟨by rw [set_ne _ _ this]; exact hp3, by rintro ⟨⟩; exact this rfl⟩
    | false =>
      simp only [Bool.false_eq_true, if_false]
      split
      · rename_i htip
        have hr0 : r = [] := List.eq_nil_of_length_eq_zero (by rw [List.length_append] at htip; omega)
        subst hr0
        refine ⟨hroom, fun id hid => ?_⟩
        rw [List.append_nil, List.drop_zero]
        refine hK _ _ (.inr ⟨id, _, [], 0, none_of_le hle hid, rfl, by rw [set_at, List.append_nil], by rw [List.length_append, h4, hv, Nat.add_mul, Nat.one_mul], by simp⟩) ?_ ?_
        · intro p ob hp
          have hpq : p ≠ q := by rintro rfl; rw [h1] at hp; cases hp
          have hp1 := hle p ob hp
          rw [set_ne _ _ (ne_new hp1 hid), del_ne _ hpq]
          exact hp1
        · intro p ob hp hp2
          have hpq : p ≠ q := by rintro rfl; exact hp rfl
          have hp3 := hfree p ob hp2
          have := ne_new hp3 hid
          exact ⟨by rw [set_ne _ _ this, del_ne _ hpq]; exact hp3, by rintro ⟨⟩; exact this rfl⟩
      · rename_i htip
        have hk0 : k ≠ 0 := by
          rintro rfl
          rw [List.length_append] at htip
          simp at h5
          rw [h5] at htip
          simp at htip
          omega
        obtain ⟨k', rfl⟩ : ∃ k', k = k' + 1 := ⟨k - 1, by omega⟩
        rw [Nat.add_mul, Nat.one_mul] at h5
        have hn1 : (n + 1) * sz = n * sz + sz := by rw [Nat.add_mul, Nat.one_mul]
        refine ⟨hsz, by rw [List.length_append, hn1]; omega, ?_⟩
        have e : putCells (cs ++ r) (0 + n * sz) vs = (cs ++ vs) ++ r.drop sz := by
          unfold putCells
          rw [Nat.zero_add, ← h4, List.take_left, hv]
          congr 1
          rw [List.drop_append, List.drop_of_length_le (by omega), List.nil_append]
          congr 1
          omega
        rw [e]
        refine hK _ _ (.inr ⟨q, false, r.drop sz, k', h1, rfl, set_at _ _ _, by rw [List.length_append, h4, hv, Nat.add_mul, Nat.one_mul], by rw [List.length_drop]; omega⟩) (le_set_free _ hle h1) fun p ob hp hp2 => ?_
        have hpq : p ≠ q := by rintro rfl; exact hp rfl
        exact ⟨by rw [set_ne _ _ hpq]; exact hfree p ob hp2, hp⟩
theorem AccX.app1 {b t : HS} {sz by_ : Nat} {A : HV} {n : Nat} {cs zs : List HV} {K : HV → HS → Prop} (h : AccX b t sz A n cs) (hb : HS.le b t) (hsz : 0 < sz) {x : HV} {vs : List HV} (hx : hcells x = some vs) (hv : vs.length = sz) (hz : zs.length = sz)
    (hroom : room (n + 1) by_) (hK : ∀ A' t', AccX b t' sz A' (n + 1) (cs ++ vs) → HS.le b t' → (∀ q ob, accId A ≠ some q → t q = some ob → t' q = some ob ∧ accId A' ≠ some q) → K A' t') : hBS t sz 1 zs [(0, x)] (fun v s => hAppend s sz by_ A v K) := by
  have := h.app1W (W := fun _ => True) (K := K) (zs := zs) hb hsz hx hv hz hroom (fun _ _ => trivial) hK
  unfold hBS at this ⊢
  split
  · rename_i cs' h'
    rw [h'] at this
    exact fun id hid => (this id hid).2
  · rename_i h'
    rw [h'] at this
    exact this
/-- What lies still, and what may be written, is a list from here on. -/
theorem AccX.up {b t : HS} {sz : Nat} {A : HV} {n : Nat} {cs : List HV} (h : AccX b t sz A n cs) (hb : HS.le b t) : UpL [A] t [.list sz n cs false] b := by
  rcases h with ⟨rfl, rfl, rfl⟩ | ⟨q, f, r, k, h1, rfl, h3, h4, h5⟩
  · exact (UpL.nilAt (ys := []) (zs := []) sz).trans (UpL.le _ hb)
  · have hu := UpL.frzD (xs := [.view q 0 sz n f]) h3 hb h1
    have e : (cs ++ r).take (n * sz) = cs := by rw [← h4]; exact List.take_left
    have e2 : 0 + n * sz ≤ (cs ++ r).length := by rw [List.length_append]; omega
    simp only [List.map_cons, List.map_nil, frz2, frz1, frz0, phi, true_and, e2, if_true, Option.getD_some, List.drop_zero, e] at hu
    exact hu
/-- An element of it. -/
theorem AccX.at_ {α : Type} {enc : α → List HV} {sz : Nat} (he : ∀ x, (enc x).length = sz) (z : α) {b t : HS} {A : HV} {l : List α} (h : AccX b t sz A l.length (rows enc l)) {i : Nat} (k : IntKind) (hi : i < l.length) :
    ∃ q, accId A = some q ∧ vIdx sz A (.lit (.int k i)) = some (.ptr q (i * sz)) ∧ vLoad t (.ptr q (i * sz)) sz true = some (.agg (enc (l.getD i z))) ∧ ∀ j, j < sz → ∀ m, vLoad t (.ptr q (i * sz + j)) m false = (enc (l.getD i z))[j]? := by
  rcases h with ⟨rfl, h0, h1⟩ | ⟨q, f, r, k', h1, rfl, h3, h4, h5⟩
  · omega
  · exact ⟨q, rfl, by rw [idx_view _ hi, Nat.zero_add], load_rows he z h3 hi, fun j hj m => load_rows1 he z h3 hi hj⟩
/-- A literal of none, that grows. -/
def Acc0 (b t : HS) (sz : Nat) (A : HV) (n : Nat) (cs : List HV) : Prop := Acc b t sz A n cs ∨ (n = 0 ∧ cs = [] ∧ ∃ q, b q = none ∧ A = .view q 0 sz 0 true ∧ t q = some (.cells []))
theorem hBS0 {t : HS} {sz : Nat} {K : HV → HS → Prop} (h : ∀ id, t id = none → K (.view id 0 sz 0 true) (t.set id (.cells []))) : hBS t sz 0 [] [] K := h
theorem app_empty {b t : HS} {sz by_ q : Nat} {K : HV → HS → Prop} (hb : HS.le b t) (hq : b q = none) (ht : t q = some (.cells [])) {x : HV} {xs : List HV} {k : Nat} (hx : lcells t sz x = some xs) (hk : llen x = k) (hl : xs.length = k * sz)
    (hroom : room k by_) (hK : ∀ A' t', Acc0 b t' sz A' k xs → HS.le b t' → K A' t') : hAppend t sz by_ (.view q 0 sz 0 true) x K := by
  unfold hAppend
  rw [hx]
  simp only [hk, ht]
  refine ⟨by trivial, by simp, ?_⟩
  simp only [if_true]
  split
  · rename_i h0
    subst h0
    have : xs = [] := List.eq_nil_of_length_eq_zero (by rw [hl]; omega)
    subst this
    exact hK _ _ (.inr ⟨rfl, rfl, q, hq, rfl, ht⟩) hb
  · refine ⟨by rw [Nat.zero_add]; exact hroom, fun id hid => ?_⟩
    have e : (([] : List HV).drop 0).take (0 * sz) ++ xs = xs := by simp
    rw [e]
    exact hK _ _ (.inl (.inr ⟨id, _, none_of_le hb hid, by rw [Nat.zero_add], set_at _ _ _, hl, by omega⟩)) (le_set_new _ hb hid)
theorem acc0_upL {b t : HS} {sz : Nat} {A : HV} {n : Nat} {cs : List HV} (h : Acc0 b t sz A n cs) (hb : HS.le b t) : UpL [A] t [.list sz n cs false] b := by
  rcases h with h | ⟨rfl, rfl, q, h3, rfl, h4⟩
  · exact h.upAtL hb [] [] (fun _ _ => rfl) (fun _ _ => rfl)
  · have := UpL.freeze (ys := []) (zs := []) (id := q) (off := 0) (sz := sz) (n := 0) (full := true) (full' := false) (fun h => by cases h) h4 (by simp)
    simp only [Nat.zero_mul, List.take_zero, List.nil_append] at this
    exact this.trans (UpL.le _ (le_del_free hb h3))
end Go.Proofs.Ythfoanmokcepcaa.H
end
section
namespace Go.Proofs.Ythfoanmokcepcaa.H
open Go.RowKit Go.MapKept
set_option linter.unusedVariables false
set_option linter.unusedSimpArgs false
theorem Acc0.base {b b' t : HS} {sz : Nat} {A : HV} {n : Nat} {cs : List HV} (h : Acc0 b t sz A n cs) (hle : HS.le b' b) : Acc0 b' t sz A n cs := by
  rcases h with h | ⟨h1, h2, q, h3, h4, h5⟩
  · exact .inl (h.base hle)
  · exact .inr ⟨h1, h2, q, none_of_le hle h3, h4, h5⟩
theorem Acc0.grow {b t : HS} {sz : Nat} {A : HV} {n : Nat} {cs : List HV} (h : Acc0 b t sz A n cs) {k : Nat} (hk : t k = none) (ob : HObj) : Acc0 (b.set k ob) (t.set k ob) sz A n cs := by
  rcases h with (h | ⟨q, f, h1, h2, h3, h4, h5⟩) | ⟨h1, h2, q, h3, h4, h5⟩
  · exact .inl (.inl h)
  · have := ne_new h3 hk
    exact .inl (.inr ⟨q, f, by rw [set_ne _ _ this]; exact h1, h2, by rw [set_ne _ _ this]; exact h3, h4, h5⟩)
  · have := ne_new h5 hk
    exact .inr ⟨h1, h2, q, by rw [set_ne _ _ this]; exact h3, h4, by rw [set_ne _ _ this]; exact h5⟩
theorem le_setBoth {b t : HS} (h : HS.le b t) (k : Nat) (ob : HObj) : HS.le (b.set k ob) (t.set k ob) := by
  intro j o hj
  by_cases e : j = k
  · subst e; rw [set_at] at hj ⊢; exact hj
  · rw [set_ne _ _ e] at hj ⊢
    exact h j o hj
theorem acc0_appS {b t : HS} {sz by_ : Nat} {A : HV} {n : Nat} {cs : List HV} {K : HV → HS → Prop} (h : Acc0 b t sz A n cs) (hb : HS.le b t) {x : HV} {xs : List HV} {k : Nat} (hx : lcells t sz x = some xs) (hk : llen x = k) (hl : xs.length = k * sz)
    (hroom : room (n + k) by_) (hK : ∀ A' t', Acc0 b t' sz A' (n + k) (cs ++ xs) → HS.le b t' → K A' t') : hAppend t sz by_ A x K := by
  rcases h with h | ⟨rfl, rfl, q, h3, rfl, h4⟩
  · exact h.app hb hx hk hl hroom fun A' t' h1 h2 _ => hK A' t' (.inl h1) h2
  · rw [Nat.zero_add] at hroom hK
    rw [List.nil_append] at hK
    exact app_empty hb h3 h4 hx hk hl hroom hK
theorem hBS_lit {s : HS} {sz : Nat} {zs vs : List HV} {x : HV} {K : HV → HS → Prop} (hx : hcells x = some vs) (hv : vs.length = sz) (hz : zs.length = sz) (h : ∀ id, s id = none → K (.view id 0 sz 1 true) (s.set id (.cells vs))) : hBS s sz 1 zs [(0, x)] K := by
  have hf : hfill (fun i => some (i * sz, sz)) zs [(0, x)] = some vs := by
    simp only [hfill, hx, Nat.zero_mul, Nat.zero_add, hv, hz, Nat.le_refl, and_self, if_true, List.take_zero, List.nil_append]
    rw [List.drop_of_length_le (by omega), List.append_nil]
  unfold hBS
  rw [hf]
  exact h
theorem lit_cells {s : HS} {id sz : Nat} {vs : List HV} (h : s id = some (.cells vs)) (hv : vs.length = sz) : lcells s sz (.view id 0 sz 1 true) = some vs := by
  simp [lcells, h, hv, List.take_of_length_le]
theorem lit_app {b t : HS} {sz by_ : Nat} {A : HV} {n : Nat} {cs zs vs : List HV} {x : HV} {K : HV → HS → Prop} (h : Acc0 b t sz A n cs) (hb : HS.le b t) (hx : hcells x = some vs) (hv : vs.length = sz) (hz : zs.length = sz) (hroom : room (n + 1) by_)
    (hK : ∀ A' t', Acc0 b t' sz A' (n + 1) (cs ++ vs) → HS.le b t' → K A' t') : hBS t sz 1 zs [(0, x)] (fun v s => hAppend s sz by_ A v K) := by
  refine hBS_lit hx hv hz fun id hid => ?_
  have hle : HS.le b (b.set id (.cells vs)) := le_set_new _ (le_refl' b) (none_of_le hb hid)
  refine acc0_appS (k := 1) (h.grow hid (.cells vs)) (le_setBoth hb _ _) (lit_cells (set_at _ _ _) hv) rfl (by omega) hroom fun A' t' h1 h2 => ?_
  exact hK A' t' (h1.base hle) (HS.le.trans hle h2)
end Go.Proofs.Ythfoanmokcepcaa.H
end
section
namespace Go.Proofs.Ythfoanmokcepcaa.H
open Go.RowKit Go.MapKept
set_option linter.unusedVariables false
set_option linter.unusedSimpArgs false
variable {P : Program} {m : M} {s : HS} {w : World}
/-- An object told otherwise. -/
theorem Rel.re {id : Nat} {ob ob' : HObj} (hR : Rel m s w) (hs : s id = some ob) (hob : ∀ l, ObjAt m ob l w → ObjAt m ob' l w) : Rel m (s.set id ob') w := by
  have old : ∀ k o, (s.set id ob') k = some o → ∃ o0, s k = some o0 := fun k o hk => by
    by_cases e : k = id
    · exact ⟨ob, by rw [e]; exact hs⟩
    · rw [set_ne _ _ e] at hk; exact ⟨o, hk⟩
  refine ⟨hR.below, hR.com, fun k o l hk hl => ?_, fun k o l hk hl => ?_, fun a b oa ob2 la lb ha hb hla hlb hab => ?_, ?_⟩
  · by_cases e : k = id
    · subst e
      rw [set_at] at hk
      cases hk
      exact hob l (hR.objs _ _ _ hs hl)
    · rw [set_ne _ _ e] at hk
      exact hR.objs _ _ _ hk hl
  · obtain ⟨o0, h0⟩ := old k o hk
    exact hR.own k o0 l h0 hl
  · obtain ⟨o1, h1⟩ := old a oa ha
    obtain ⟨o2, h2⟩ := old b ob2 hb
    exact hR.inj a b o1 o2 la lb h1 h2 hla hlb hab
  · obtain ⟨N, hN⟩ := hR.fin
    refine ⟨max N (id + 1), fun k hk => ?_⟩
    rw [set_ne _ _ (by omega)]
    exact hN k (by omega)
theorem UpL.re (xs : List HV) {id : Nat} {ob ob' : HObj} (hs : s id = some ob) (hob : ∀ m l w, ObjAt m ob l w → ObjAt m ob' l w) : UpL xs s xs (s.set id ob') := fun m w cvs hR hr => ⟨m, M.le.refl m, hR.re hs fun l => hob m l w, hr⟩
/-- A map that was laid out is itself again. -/
theorem mapx_close {d : TypeDesc} {es : List (Value × HV × Nat)} {cl n : Nat} {f : Value → Option HV} (h : Reads f n es) (m : M) (l : Loc) (w : World) (ho : ObjAt m (.mapx d es cl) l w) : ObjAt m (.map d f n) l w := by
  obtain ⟨a, q1, q2, q3, q4, q5⟩ := ho
  refine ⟨a, cl, q1, by rw [q4, h.len], q2, q3, fun k x hk => ?_, fun e he => ?_⟩
  · obtain ⟨b, hb⟩ := h.all k x hk
    obtain ⟨j, hj⟩ := List.getElem?_of_mem hb
    obtain ⟨e', g1, g2, -, g4⟩ := q5 j _ hj
    exact ⟨e', List.mem_of_getElem? g1, g2, g4⟩
  · obtain ⟨j, hj⟩ := List.getElem?_of_mem he
    have hjl : j < es.length := by
      have := (List.getElem?_eq_some_iff.1 hj).1
      rw [Array.length_toList, q4] at this
      exact this
    obtain ⟨e', g1, g2, -, -⟩ := q5 j _ (List.getElem?_eq_getElem hjl)
    rw [hj] at g1
    cases g1
    rw [g2, h.get _ (List.getElem_mem hjl)]
    rfl
theorem UpL.close (xs : List HV) {id : Nat} {d : TypeDesc} {es : List (Value × HV × Nat)} {cl n : Nat} {f : Value → Option HV} (hs : s id = some (.mapx d es cl)) (h : Reads f n es) : UpL xs s xs (s.set id (.map d f n)) :=
  UpL.re xs hs fun m l w ho => mapx_close h m l w ho
/-- What has been met adds up. -/
def metS (es : List (Value × HV × Nat)) (wt : Value → Int) (seen : List Nat) : Int := ((es.filter fun e => seen.contains e.2.2).map fun e => wt e.1).sum
def leftN (es : List (Value × HV × Nat)) (seen : List Nat) : Nat := (es.filter fun e => !seen.contains e.2.2).length
theorem metS_nil (es : List (Value × HV × Nat)) (wt : Value → Int) : metS es wt [] = 0 := by
  unfold metS
  rw [List.filter_eq_nil_iff.2 (by simp)]
  rfl
theorem metS_all {es : List (Value × HV × Nat)} (wt : Value → Int) {seen : List Nat} (h : ∀ e ∈ es, e.2.2 ∈ seen) : metS es wt seen = (es.map fun e => wt e.1).sum := by
  unfold metS
  rw [List.filter_eq_self.2 fun e he => by simpa using h e he]
theorem metS_snoc : ∀ {es : List (Value × HV × Nat)} (wt : Value → Int) {seen : List Nat} {e : Value × HV × Nat}, (es.map fun e => e.2.2).Nodup → e ∈ es → e.2.2 ∉ seen → metS es wt (seen ++ [e.2.2]) = metS es wt seen + wt e.1
  | [], wt, seen, e, hn, he, hs => by cases he
  | x :: es, wt, seen, e, hn, he, hs => by
    rw [List.map_cons, List.nodup_cons] at hn
    have step : ∀ sn, metS (x :: es) wt sn = (if sn.contains x.2.2 then wt x.1 else 0) + metS es wt sn := fun sn => by
      unfold metS
      rw [List.filter_cons]
      split <;> simp
    rw [step, step]
    rcases List.mem_cons.1 he with rfl | he
    · have h1 : metS es wt (seen ++ [e.2.2]) = metS es wt seen := by
        unfold metS
        congr 2
        refine List.filter_congr fun y hy => ?_
        have : y.2.2 ≠ e.2.2 := fun e' => hn.1 (by rw [← e']; exact List.mem_map_of_mem hy)
        simp [this]
      rw [h1, if_pos (by simp), if_neg (by simpa using hs)]
      omega
    · have h1 : (seen ++ [e.2.2]).contains x.2.2 = seen.contains x.2.2 := by
        have : x.2.2 ≠ e.2.2 := fun e' => hn.1 (by rw [e']; exact List.mem_map_of_mem he)
        simp [this]
      rw [h1, metS_snoc wt hn.2 he hs]
      omega
theorem filter_lt2 {α : Type} {p q : α → Bool} (hpq : ∀ x, q x = true → p x = true) : ∀ {l : List α} {x : α}, x ∈ l → p x = true → q x = false → (l.filter q).length < (l.filter p).length
  | y :: l, x, hx, h1, h2 => by
    have hle : (l.filter q).length ≤ (l.filter p).length := by
      have : l.filter q = (l.filter p).filter q := by
        rw [List.filter_filter]
        refine List.filter_congr fun z _ => ?_
        cases hq : q z with
        | true => simp [hpq z hq]
        | false => simp
      rw [this]
      exact List.length_filter_le _ _
    rw [List.filter_cons, List.filter_cons]
    rcases List.mem_cons.1 hx with rfl | hx
    · rw [h1, h2]
      simp
      omega
    · have ih := filter_lt2 hpq hx h1 h2
      cases hq : q y with
      | true => rw [hpq y hq]; simpa using ih
      | false =>
        cases hp : p y
        · simpa using ih
        · simp
          omega
theorem leftN_lt {es : List (Value × HV × Nat)} {seen : List Nat} {e : Value × HV × Nat} (he : e ∈ es) (hs : e.2.2 ∉ seen) : leftN es (seen ++ [e.2.2]) < leftN es seen := by
  unfold leftN
  refine filter_lt2 (p := fun e : Value × HV × Nat => !seen.contains e.2.2) (q := fun x : Value × HV × Nat => !(seen ++ [e.2.2]).contains x.2.2) (fun x hx => ?_) he (by simpa using hs) (by simp)
  simp at hx ⊢
  exact hx.1
theorem perm_sum {a b : List Int} (h : a.Perm b) : a.sum = b.sum := by
  induction h with
  | nil => rfl
  | cons x _ ih => rw [List.sum_cons, List.sum_cons, ih]
  | swap x y l => simp only [List.sum_cons]; omega
  | trans _ _ h1 h2 => exact h1.trans h2
/-- Two lists of keys, each without doubles, that hold the same. -/
theorem sum_same {α : Type} {a b : List α} (wt : α → Int) (ha : a.Nodup) (hb : b.Nodup) (h : ∀ x, x ∈ a ↔ x ∈ b) : (a.map wt).sum = (b.map wt).sum := by
  have hp : a.Perm b := (List.perm_ext_iff_of_nodup ha hb).2 h
  exact perm_sum (hp.map wt)
end Go.Proofs.Ythfoanmokcepcaa.H
end
section
namespace Go.Proofs.Ythfoanmokcepcaa.H
set_option linter.unusedVariables false
set_option linter.unusedSimpArgs false
section
variable {α : Type} {z : α} {lt : α → α → Bool}
/-- A total order, but for equals. -/
structure Ordr (lt : α → α → Bool) : Prop where
  asymm : ∀ x y, lt x y = true → lt y x = false
  trans : ∀ x y w, lt y x = false → lt w y = false → lt w x = false
theorem Ordr.irrefl (h : Ordr lt) (x : α) : lt x x = false := by
  cases e : lt x x with
  | false => rfl
  | true => have := h.asymm x x e; rw [e] at this; cases this
def SO (z : α) (lt : α → α → Bool) (M : List α) (a b : Nat) : Prop := ∀ i j, a ≤ i → i < j → j < b → lt (M.getD j z) (M.getD i z) = false
def swap (z : α) (M : List α) (i j : Nat) : List α := (M.set i (M.getD j z)).set j (M.getD i z)
theorem swap_perm {M : List α} {i j : Nat} (hi : i < M.length) (hj : j < M.length) : (swap z M i j).Perm M := by
  unfold swap
  rw [getD_get z M hi, getD_get z M hj]
  exact List.set_set_perm hi hj
theorem swap_get {M : List α} {i j : Nat} (hi : i < M.length) (hj : j < M.length) (k : Nat) : (swap z M i j).getD k z = if k = j then M.getD i z else if k = i then M.getD j z else M.getD k z := by
  unfold swap
  simp only [List.getD, List.getElem?_set]
  by_cases h1 : k = j
  · subst h1
    simp [hj]
  · by_cases h2 : k = i
    · subst h2
      have : ¬ j = k := fun e => h1 e.symm
      simp [this, hi, h1]
    · have e1 : ¬ j = k := fun e => h1 e.symm
      have e2 : ¬ i = k := fun e => h2 e.symm
      simp [e1, e2, h1, h2]
/-- What one element is put into, from the right. -/
def Ins (z : α) (lt : α → α → Bool) (M : List α) (a i j : Nat) : Prop :=
  (∀ p q, a ≤ p → p < q → q ≤ i → p ≠ j → q ≠ j → lt (M.getD q z) (M.getD p z) = false) ∧ ∀ q, j < q → q ≤ i → lt (M.getD q z) (M.getD j z) = false
theorem Ins.start {M : List α} {a i : Nat} (h : SO z lt M a i) : Ins z lt M a i i :=
  ⟨fun p q h1 h2 h3 h4 h5 => h p q h1 h2 (by omega), fun q h1 h2 => by omega⟩
theorem Ins.step (ho : Ordr lt) {M : List α} {a i j : Nat} (h : Ins z lt M a i j) (hi : i < M.length) (hj : j ≤ i) (ha : a < j) (hl : lt (M.getD j z) (M.getD (j - 1) z) = true) : Ins z lt (swap z M j (j - 1)) a i (j - 1) := by
  obtain ⟨h1, h2⟩ := h
  have hg := swap_get (z := z) (M := M) (i := j) (j := j - 1) (by omega) (by omega)
  constructor
  · intro p q g1 g2 g3 g4 g5
    rw [hg, hg, if_neg g5, if_neg g4]
    by_cases hp : p = j
    · subst hp
      rw [if_pos rfl, if_neg (by omega)]
      exact h1 (p - 1) q (by omega) (by omega) g3 (by omega) (by omega)
    · rw [if_neg hp]
      by_cases hq : q = j
      · subst hq
        rw [if_pos rfl]
        exact h1 p (q - 1) g1 (by omega) (by omega) hp (by omega)
      · rw [if_neg hq]
        exact h1 p q g1 g2 g3 hp hq
  · intro q g1 g2
    rw [hg, hg, if_neg (by omega), if_pos rfl]
    by_cases hq : q = j
    · subst hq
      rw [if_pos rfl]
      exact ho.asymm _ _ hl
    · rw [if_neg hq]
      exact h2 q (by omega) g2
/-- Changed within two bounds alone, and nothing lost. -/
structure Kept (z : α) (M M' : List α) (a b : Nat) : Prop where
  perm : M'.Perm M
  out : ∀ k, k < a ∨ b ≤ k → M'.getD k z = M.getD k z
  inn : ∀ k, a ≤ k → k < b → ∃ q, a ≤ q ∧ q < b ∧ M'.getD k z = M.getD q z
theorem Kept.refl (M : List α) (a b : Nat) : Kept z M M a b := ⟨List.Perm.refl _, fun _ _ => rfl, fun k h1 h2 => ⟨k, h1, h2, rfl⟩⟩
theorem Kept.trans {M M' M'' : List α} {a b : Nat} (h : Kept z M M' a b) (k : Kept z M' M'' a b) : Kept z M M'' a b :=
  ⟨k.perm.trans h.perm, fun i hi => (k.out i hi).trans (h.out i hi), fun i h1 h2 => by
    obtain ⟨q, q1, q2, e1⟩ := k.inn i h1 h2
    obtain ⟨r, r1, r2, e2⟩ := h.inn q q1 q2
    exact ⟨r, r1, r2, e1.trans e2⟩⟩
theorem Kept.wide {M M' : List α} {a b c d : Nat} (h : Kept z M M' a b) (h1 : c ≤ a) (h2 : b ≤ d) : Kept z M M' c d :=
  ⟨h.perm, fun i hi => h.out i (by omega), fun i h3 h4 => by
    by_cases hi : a ≤ i ∧ i < b
    · obtain ⟨q, q1, q2, e⟩ := h.inn i hi.1 hi.2
      exact ⟨q, by omega, by omega, e⟩
    · exact ⟨i, h3, h4, h.out i (by omega)⟩⟩
theorem Kept.len {M M' : List α} {a b : Nat} (h : Kept z M M' a b) : M'.length = M.length := h.perm.length_eq
theorem Kept.swap {M : List α} {a b i j : Nat} (hi : i < M.length) (hj : j < M.length) (h1 : a ≤ i) (h2 : i < b) (h3 : a ≤ j) (h4 : j < b) : Kept z M (swap z M i j) a b :=
  ⟨swap_perm hi hj, fun k hk => by rw [swap_get hi hj, if_neg (by omega), if_neg (by omega)], fun k h5 h6 => by
    rw [swap_get hi hj]
    split
    · exact ⟨i, h1, h2, rfl⟩
    · split
      · exact ⟨j, h3, h4, rfl⟩
      · exact ⟨k, h5, h6, rfl⟩⟩
theorem SO.nil (M : List α) (a : Nat) : SO z lt M a a := fun i j h1 h2 h3 => by omega
theorem SO.one (M : List α) (a : Nat) : SO z lt M a (a + 1) := fun i j h1 h2 h3 => by omega
end
end Go.Proofs.Ythfoanmokcepcaa.H
end
section
namespace Go.Proofs.Ythfoanmokcepcaa.H
set_option linter.unusedVariables false
set_option linter.unusedSimpArgs false
section
variable {α : Type} {z : α} {lt : α → α → Bool}
def SOf (lt : α → α → Bool) (f : Nat → α) (a b : Nat) : Prop := ∀ i j, a ≤ i → i < j → j < b → lt (f j) (f i) = false
def Cross (lt : α → α → Bool) (f : Nat → α) (a m b : Nat) : Prop := ∀ x y, a ≤ x → x < m → m ≤ y → y < b → lt (f y) (f x) = false
theorem Cross.left {M M' : List α} {a m b : Nat} (h : Cross lt (fun k => M.getD k z) a m b) (k : Kept z M M' a m) : Cross lt (fun k => M'.getD k z) a m b := by
  intro x y g1 g2 g3 g4
  obtain ⟨q, q1, q2, e⟩ := k.inn x g1 g2
  show lt (M'.getD y z) (M'.getD x z) = false
  rw [k.out y (.inr g3), e]
  exact h q y q1 q2 g3 g4
theorem Cross.right {M M' : List α} {a m b : Nat} (h : Cross lt (fun k => M.getD k z) a m b) (k : Kept z M M' m b) : Cross lt (fun k => M'.getD k z) a m b := by
  intro x y g1 g2 g3 g4
  obtain ⟨q, q1, q2, e⟩ := k.inn y g3 g4
  show lt (M'.getD y z) (M'.getD x z) = false
  rw [k.out x (.inl g2), e]
  exact h x q g1 g2 q1 q2
/-- Where symMerge cuts: what it found of start. -/
structure Cut (lt : α → α → Bool) (f : Nat → α) (a m b mid start : Nat) : Prop where
  lo : a ≤ start
  hm : start ≤ m
  hd : start ≤ mid
  e1 : m + mid - start ≤ b
  l : ∀ c, a ≤ c → m + mid ≤ c + b → c < start → lt (f (m + mid - 1 - c)) (f c) = false
  r : ∀ c, start ≤ c → c < m → c < mid → lt (f (m + mid - 1 - c)) (f c) = true
theorem SOf.le (ho : Ordr lt) {f : Nat → α} {a b i j : Nat} (h : SOf lt f a b) (h1 : a ≤ i) (h2 : i ≤ j) (h3 : j < b) : lt (f j) (f i) = false := by
  by_cases e : i = j
  · subst e; exact ho.irrefl _
  · exact h i j h1 (by omega) h3
end
end Go.Proofs.Ythfoanmokcepcaa.H
end
section
namespace Go.Proofs.Ythfoanmokcepcaa.H
open Go.RowKit Go.MapKept
set_option linter.unusedVariables false
set_option linter.unusedSimpArgs false
section
variable {P : Program} {α : Type} {enc : α → List HV} {sz : Nat} {z : α} {rest : List HV} {s : HS} {q : Nat} {lt : α → α → Bool}
theorem add_i {a b : Nat} (h : a + b < 9223372036854775808) : vBin .add (.lit (.int .i64 (a : Int))) (.lit (.int .i64 (b : Int))) = some (.lit (.int .i64 ((a + b : Nat) : Int))) := by
  simp only [vBin, if_true]
  rw [w64 (by omega) (by omega), Int.natCast_add]
theorem lss_i (a b : Nat) : vBin .lss (.lit (.int .i64 (a : Int))) (.lit (.int .i64 (b : Int))) = some (.lit (.bool (decide (a < b)))) := by
  simp only [vBin, if_true]
  congr 3
  simp
end
end Go.Proofs.Ythfoanmokcepcaa.H
end
section
namespace Go.Proofs.Ythfoanmokcepcaa.H
open Go.RowKit Go.MapKept
set_option linter.unusedVariables false
set_option linter.unusedSimpArgs false
section
variable {P : Program} {α : Type} {enc : α → List HV} {sz : Nat} {z : α} {rest : List HV} {s : HS} {q : Nat} {lt : α → α → Bool} {N : Nat} {f : Bool} {cmp : HV}
theorem wlit1 : HV.lit (.int .i64 1) = .lit (.int .i64 ((1 : Nat) : Int)) := rfl
end
end Go.Proofs.Ythfoanmokcepcaa.H
end
section
namespace Go.Proofs.Ythfoanmokcepcaa.H
end Go.Proofs.Ythfoanmokcepcaa.H
end
section
namespace Go.Proofs.Ythfoanmokcepcaa.H
end Go.Proofs.Ythfoanmokcepcaa.H
end
section
section
namespace Go.Proofs.Ythfoanmokcepcaa.AS
open Go.Proofs.Ythfoanmokcepcaa.H Go.Proofs.Ythfoanmokcepcaa.X0
set_option linter.unusedVariables false
set_option linter.unusedSimpArgs false
set_option maxRecDepth 100000
abbrev By := List UInt8
abbrev bl_ (a b : By) : Bool := Op.bytesLess a b
theorem bl_irrefl : ∀ a : By, bl_ a a = false
  | [] => rfl
  | x :: a => by simp only [bl_, Op.bytesLess]; have := bl_irrefl a; simp [bl_] at this; simp [this]
theorem bl_tri : ∀ a b : By, bl_ a b = false → a = b ∨ bl_ b a = true
  | [], [], _ => .inl rfl
  | [], y :: b, h => by simp [bl_, Op.bytesLess] at h
  | x :: a, [], _ => .inr rfl
  | x :: a, y :: b, h => by
    simp only [bl_, Op.bytesLess, Bool.or_eq_false_iff, Bool.and_eq_false_iff, decide_eq_false_iff_not] at h
    obtain ⟨h1, h2⟩ := h
    by_cases e : x = y
    · subst e
      have h3 : bl_ a b = false := by
        rcases h2 with h2 | h2
        · simp at h2
        · exact h2
      rcases bl_tri a b h3 with rfl | h4
      · exact .inl rfl
      · refine .inr ?_
        simp only [bl_, Op.bytesLess, Bool.or_eq_true, Bool.and_eq_true]
        exact .inr ⟨by simp, h4⟩
    · refine .inr ?_
      simp only [bl_, Op.bytesLess, Bool.or_eq_true, Bool.and_eq_true, decide_eq_true_eq]
      left
      have h5 : ¬ x < y := by simpa using h1
      rcases UInt8.lt_or_lt_of_ne e with h6 | h6
      · exact absurd h6 h5
      · exact h6
theorem bl_trans : ∀ a b c : By, bl_ a b = true → bl_ b c = true → bl_ a c = true
  | _, b, [], _, h => by cases b <;> simp [bl_, Op.bytesLess] at h
  | _, [], z :: c, h, _ => by rename_i a; cases a <;> simp [bl_, Op.bytesLess] at h
  | [], y :: b, z :: c, _, _ => rfl
  | x :: a, y :: b, z :: c, h, k => by
    simp only [bl_, Op.bytesLess, Bool.or_eq_true, Bool.and_eq_true, decide_eq_true_eq, beq_iff_eq] at h k ⊢
    rcases h with h | ⟨rfl, h⟩ <;> rcases k with k | ⟨rfl, k⟩
    · exact .inl (UInt8.lt_trans h k)
    · exact .inl h
    · exact .inl k
    · exact .inr ⟨rfl, bl_trans a b c h k⟩
theorem bl_asymm {a b : By} (h : bl_ a b = true) : bl_ b a = false := by
  cases e : bl_ b a with
  | false => rfl
  | true => have := bl_trans _ _ _ h e; rw [bl_irrefl] at this; cases this
theorem toList_go (s : ByteArray) : ∀ (k i : Nat) (r : List UInt8), s.size - i = k → i ≤ s.size → ByteArray.toList.loop s i r = r.reverse ++ s.data.toList.drop i := by
  intro k
  induction k with
  | zero =>
    intro i r h hi
    have : i = s.size := by omega
    unfold ByteArray.toList.loop
    rw [if_neg (by omega)]
    have e : s.data.toList.drop i = [] := List.drop_of_length_le (by rw [this]; show s.data.toList.length ≤ s.data.size; simp)
    rw [e, List.append_nil]
  | succ k ih =>
    intro i r h hi
    have hlt : i < s.size := by omega
    unfold ByteArray.toList.loop
    rw [if_pos hlt, ih (i + 1) _ (by omega) (by omega)]
    have hlt2 : i < s.data.toList.length := by
      have : s.data.toList.length = s.data.size := by simp
      rw [this]; exact hlt
    rw [List.drop_eq_getElem_cons hlt2, List.reverse_cons, List.append_assoc]
    congr 1
    show [s.data[i]!] ++ _ = _
    rw [getElem!_pos s.data i (by simpa using hlt2)]
    rfl
theorem toList_data (s : ByteArray) : s.toList = s.data.toList := by
  unfold ByteArray.toList
  rw [toList_go s s.size 0 [] (by omega) (by omega)]
  simp
theorem toL (a : By) : (⟨a.toArray⟩ : ByteArray).toList = a := by rw [toList_data]
def strV (k : By) : HV := .lit (.string ⟨k.toArray⟩)
def strC (k : By) : List HV := [strV k]
structure Mem where
  id : By
  tp : Option (List By)
structure Top where
  name : By
  parts : Int
def m0 : Mem := ⟨[], none⟩
section
variable {α : Type} {enc : α → List HV} {z : α} {rest : List HV} {s : HS} {q : Nat} {lt : α → α → Bool} {N : Nat} {f : Bool} {cmp : HV}
end
end Go.Proofs.Ythfoanmokcepcaa.AS
end
section
namespace Go.Proofs.Ythfoanmokcepcaa.AS
open Go.Proofs.Ythfoanmokcepcaa.H Go.Proofs.Ythfoanmokcepcaa.X0
set_option linter.unusedVariables false
set_option linter.unusedSimpArgs false
set_option maxRecDepth 100000
/-- A row: nil, or an object. -/
def RowV (s : HS) (sz : Nat) (A : HV) (n : Nat) (cs : List HV) : Prop := (A = nilV ∧ cs = [] ∧ n = 0) ∨ ∃ q f, A = .view q 0 sz n f ∧ s q = some (.cells cs) ∧ cs.length = n * sz
theorem RowV.le {s t : HS} {sz : Nat} {A : HV} {n : Nat} {cs : List HV} (h : RowV s sz A n cs) (hle : HS.le s t) : RowV t sz A n cs := by
  rcases h with h | ⟨q, f, h1, h2, h3⟩
  · exact .inl h
  · exact .inr ⟨q, f, h1, hle _ _ h2, h3⟩
theorem RowV.at_ {α : Type} {enc : α → List HV} {sz : Nat} (he : ∀ x, (enc x).length = sz) (z : α) {s : HS} {A : HV} {l : List α} (h : RowV s sz A l.length (rows enc l)) {i : Nat} (hi : i < l.length) :
    ∃ q, vIdx sz A (.lit (.int .i64 (i : Int))) = some (.ptr q (i * sz)) ∧ ∀ t, HS.le s t → vLoad t (.ptr q (i * sz)) sz true = some (.agg (enc (l.getD i z))) ∧ ∀ j, j < sz → ∀ m, vLoad t (.ptr q (i * sz + j)) m false = (enc (l.getD i z))[j]? := by
  rcases h with ⟨rfl, h0, h1⟩ | ⟨q, f, rfl, h3, h4⟩
  · omega
  · refine ⟨q, by rw [idx_view .i64 hi, Nat.zero_add], fun t ht => ?_⟩
    have h5 : t q = some (.cells (rows enc l ++ [])) := by rw [List.append_nil]; exact ht _ _ h3
    exact ⟨load_rows he z h5 hi, fun j hj m => load_rows1 he z h5 hi hj⟩
end Go.Proofs.Ythfoanmokcepcaa.AS
end
section
namespace Go.Proofs.Ythfoanmokcepcaa.AS
open Go.Proofs.Ythfoanmokcepcaa.H Go.Proofs.Ythfoanmokcepcaa.X0
set_option linter.unusedVariables false
set_option linter.unusedSimpArgs false
set_option maxRecDepth 100000
abbrev Slot := By × Int
def slC (x : Slot) : List HV := [strV x.1, .lit (.int .i64 x.2)]
structure Sh where
  who : By
  row : HV
  sl : List Slot
def shC (x : Sh) : List HV := [strV x.who, x.row]
def x0 : Sh := ⟨[], nilV, []⟩
/-- Shares: a row of names and of rows that grow, each one of its own. -/
structure Shares (b t : HS) (q : Nat) (L : List Sh) : Prop where
  free : b q = none
  at_ : t q = some (.cells (rows shC L))
  acc : ∀ x ∈ L, Acc b t 2 x.row x.sl.length (rows slC x.sl)
  apart : ∀ i j, i < j → j < L.length → accId (L.getD i x0).row = none ∨ accId (L.getD i x0).row ≠ accId (L.getD j x0).row
  self : ∀ x ∈ L, accId x.row ≠ some q
end Go.Proofs.Ythfoanmokcepcaa.AS
end
section
namespace Go.Proofs.Ythfoanmokcepcaa.AS
open Go.Proofs.Ythfoanmokcepcaa.H Go.Proofs.Ythfoanmokcepcaa.X0
set_option linter.unusedVariables false
set_option linter.unusedSimpArgs false
set_option maxRecDepth 100000
abbrev DD := List (By × List Slot)
def dOf (x : Sh) : By × List Slot := (x.who, x.sl)
/-- Shares, told by what they hold. -/
def SharesP (b u : HS) (SH : HV) (D : DD) : Prop := (D = [] ∧ SH = nilV) ∨ ∃ q f L, L.map dOf = D ∧ SH = .view q 0 2 D.length f ∧ Shares b u q L
theorem SharesP.le {b u v : HS} {SH : HV} {D : DD} (h : SharesP b u SH D) (hle : HS.le u v) : SharesP b v SH D := by
  rcases h with h | ⟨q, f, L, h1, h2, h3⟩
  · exact .inl h
  · exact .inr ⟨q, f, L, h1, h2, ⟨h3.free, hle _ _ h3.at_, fun x hx => (h3.acc x hx).le hle, h3.apart, h3.self⟩⟩
end Go.Proofs.Ythfoanmokcepcaa.AS
end
section
namespace Go.Proofs.Ythfoanmokcepcaa.AS
open Go.Proofs.Ythfoanmokcepcaa.H Go.Proofs.Ythfoanmokcepcaa.X0
set_option linter.unusedVariables false
set_option linter.unusedSimpArgs false
set_option maxRecDepth 100000
/-- What stands in order, and is the same, is the same row. -/
theorem strict_uniq {α : Type} (nm : α → By) : ∀ (a b : List α), a.Pairwise (fun x y => bl_ (nm x) (nm y) = true) → b.Pairwise (fun x y => bl_ (nm x) (nm y) = true) → (∀ x, x ∈ a ↔ x ∈ b) → a = b
  | [], [], _, _, _ => rfl
  | [], y :: b, _, _, h => by have := (h y).2 List.mem_cons_self; cases this
  | x :: a, [], _, _, h => by have := (h x).1 List.mem_cons_self; cases this
  | x :: a, y :: b, ha, hb, h => by
    have ha' := List.pairwise_cons.1 ha
    have hb' := List.pairwise_cons.1 hb
    have e : x = y := by
      rcases List.mem_cons.1 ((h x).1 List.mem_cons_self) with e | h1
      · exact e
      · rcases List.mem_cons.1 ((h y).2 List.mem_cons_self) with e | h2
        · exact e.symm
        · have h3 := bl_asymm (hb'.1 _ h1)
          rw [ha'.1 _ h2] at h3
          cases h3
    subst e
    congr 1
    refine strict_uniq nm a b ha'.2 hb'.2 fun z => ⟨fun hz => ?_, fun hz => ?_⟩
    · rcases List.mem_cons.1 ((h z).1 (List.mem_cons_of_mem _ hz)) with e | h1
      · have := ha'.1 _ hz
        rw [e, bl_irrefl] at this
        cases this
      · exact h1
    · rcases List.mem_cons.1 ((h z).2 (List.mem_cons_of_mem _ hz)) with e | h1
      · have := hb'.1 _ hz
        rw [e, bl_irrefl] at this
        cases this
      · exact h1
def slotsOf (ts : List Top) : List Slot := ts.flatMap fun t => (List.range t.parts.toNat).map fun j => (t.name, ((j : Nat) : Int))
end Go.Proofs.Ythfoanmokcepcaa.AS
end
section
namespace Go.Proofs.Ythfoanmokcepcaa.AS
open Go.Proofs.Ythfoanmokcepcaa.H Go.Proofs.Ythfoanmokcepcaa.X0
set_option linter.unusedVariables false
set_option linter.unusedSimpArgs false
set_option maxRecDepth 100000
def hasT (ms : List Mem) (nm : By) (i : Nat) : Bool := ((ms.getD i m0).tp.getD []).contains nm
end Go.Proofs.Ythfoanmokcepcaa.AS
end
section
namespace Go.Proofs.Ythfoanmokcepcaa.AS
open Go.Proofs.Ythfoanmokcepcaa.H Go.Proofs.Ythfoanmokcepcaa.X0
set_option linter.unusedVariables false
set_option linter.unusedSimpArgs false
set_option maxRecDepth 100000
def wanted (ms : List Mem) (nm : By) : Bool := (List.range ms.length).any (hasT ms nm)
structure Good (ms : List Mem) (ts : List Top) (l : List (Nat × Slot)) : Prop where
  slots : l.map Prod.snd = (slotsOf ts).filter fun x => wanted ms x.1
  who : ∀ p ∈ l, p.1 < ms.length ∧ hasT ms p.2.1 p.1 = true
end Go.Proofs.Ythfoanmokcepcaa.AS
end
section
namespace Go.Proofs.Ythfoanmokcepcaa.AS
open Go.Proofs.Ythfoanmokcepcaa.H Go.Proofs.Ythfoanmokcepcaa.X0
set_option linter.unusedVariables false
set_option linter.unusedSimpArgs false
set_option maxRecDepth 100000
def slV (l : List Slot) : HV := accV 2 l.length (rows slC l)
def shE (d : By × List Slot) : List HV := [strV d.1, slV d.2]
end Go.Proofs.Ythfoanmokcepcaa.AS
end
section
namespace Go.Proofs.Ythfoanmokcepcaa.AS
open Go.Proofs.Ythfoanmokcepcaa.H Go.Proofs.Ythfoanmokcepcaa.X0
set_option linter.unusedVariables false
set_option linter.unusedSimpArgs false
set_option maxRecDepth 100000
section
variable {α : Type} (nm : α → By)
end
theorem eql_s (a b : By) : vCmp (Try.prog.underlying 9) .eql (strV a) (strV b) = some (.lit (.bool (decide (a = b)))) := by
  simp only [vCmp, vBin, strV, toL, Option.some.injEq, HV.lit.injEq, Value.bool.injEq]
  rw [Bool.eq_iff_iff]
  simp
theorem neq_s (a b : By) : vCmp (Try.prog.underlying 9) .neq (strV a) (strV b) = some (.lit (.bool (!decide (a = b)))) := by
  simp only [vCmp, vBin, strV, toL, Option.some.injEq, HV.lit.injEq, Value.bool.injEq]
  congr 1
  rw [Bool.eq_iff_iff]
  simp
theorem inc_i {i n : Nat} (hi : i < n) (hn : n ≤ 9223372036854775807) : vBin .add (.lit (.int .i64 (i : Int))) (.lit (.int .i64 1)) = some (.lit (.int .i64 ((i + 1 : Nat) : Int))) := by
  rw [wlit1, add_i (by omega)]
end Go.Proofs.Ythfoanmokcepcaa.AS
end
section
namespace Go.Proofs.Ythfoanmokcepcaa.AS
open Go.Proofs.Ythfoanmokcepcaa.H Go.Proofs.Ythfoanmokcepcaa.X0
set_option linter.unusedVariables false
set_option linter.unusedSimpArgs false
set_option maxRecDepth 100000
theorem hBS_in {s : HS} {sz n : Nat} {zs cs : List HV} {parts : List (Nat × HV)} {K : HV → HS → Prop} (hf : hfill (fun i => some (i * sz, sz)) zs parts = some cs) (h : ∀ id, s id = none → K (.view id 0 sz n true) (s.set id (.cells cs))) : hBS s sz n zs parts K := by
  unfold hBS
  rw [hf]
  exact h
theorem gtr_n (a b : Int) : vBin .gtr (.lit (.int .i64 a)) (.lit (.int .i64 b)) = some (.lit (.bool (decide (b < a)))) := rfl
theorem lss_n (a b : Int) : vBin .lss (.lit (.int .i64 a)) (.lit (.int .i64 b)) = some (.lit (.bool (decide (a < b)))) := rfl
theorem leq_n (a b : Int) : vBin .leq (.lit (.int .i64 a)) (.lit (.int .i64 b)) = some (.lit (.bool (decide (a ≤ b)))) := rfl
theorem geq_n (a b : Int) : vBin .geq (.lit (.int .i64 a)) (.lit (.int .i64 b)) = some (.lit (.bool (decide (b ≤ a)))) := rfl
theorem add_n {a b : Int} (h : -9223372036854775808 ≤ a + b) (h' : a + b < 9223372036854775808) : vBin .add (.lit (.int .i64 a)) (.lit (.int .i64 b)) = some (.lit (.int .i64 (a + b))) := by
  simp only [vBin, if_true, w64 h h']
theorem sub_n {a b : Int} (h : -9223372036854775808 ≤ a - b) (h' : a - b < 9223372036854775808) : vBin .sub (.lit (.int .i64 a)) (.lit (.int .i64 b)) = some (.lit (.int .i64 (a - b))) := by
  simp only [vBin, if_true, w64 h h']
/-- What the statement looks at. -/
structure Small (l : List Mem) (t : List Top) : Prop where
  nl : l.length ≤ 1000
  tp : ∀ m ∈ l, (m.tp.getD []).length ≤ 1000
  nt : t.length ≤ 1000
  parts : ∀ x ∈ t, x.parts ≤ 60 ∨ 1000 < x.parts
structure InSize (l : List Mem) (t : List Top) : Prop where
  nl : l.length ≤ 9223372036854775807
  ids : ∀ m ∈ l, m.id.length ≤ 9223372036854775807
  tp : ∀ m ∈ l, (m.tp.getD []).length ≤ 9223372036854775807 ∧ ∀ x ∈ m.tp.getD [], x.length ≤ 9223372036854775807
  nt : t.length ≤ 9223372036854775807
  name : ∀ x ∈ t, x.name.length ≤ 9223372036854775807
theorem getD_memD {α : Type} (z : α) {l : List α} {i : Nat} (h : i < l.length) : l.getD i z ∈ l := by rw [getD_get _ _ h]; exact List.getElem_mem h
end Go.Proofs.Ythfoanmokcepcaa.AS
end
section
namespace Go.Proofs.Ythfoanmokcepcaa.AS
open Go.Proofs.Ythfoanmokcepcaa.H Go.Proofs.Ythfoanmokcepcaa.X0
set_option linter.unusedVariables false
set_option linter.unusedSimpArgs false
set_option maxRecDepth 100000
end Go.Proofs.Ythfoanmokcepcaa.AS
end
section
namespace Go.Proofs.Ythfoanmokcepcaa.AS
open Go.Proofs.Ythfoanmokcepcaa.H Go.Proofs.Ythfoanmokcepcaa.X0
set_option linter.unusedVariables false
set_option linter.unusedSimpArgs false
set_option maxRecDepth 100000
theorem ls (d : By × List Slot) (u : HS) : vLoad u (.elt (shE d) (0 + 1)) 1 false = some (slV d.2) := rfl
end Go.Proofs.Ythfoanmokcepcaa.AS
end
section
namespace Go.Proofs.Ythfoanmokcepcaa.AS
open Go.Proofs.Ythfoanmokcepcaa.H Go.Proofs.Ythfoanmokcepcaa.X0
set_option linter.unusedVariables false
set_option linter.unusedSimpArgs false
set_option maxRecDepth 100000
end Go.Proofs.Ythfoanmokcepcaa.AS
end
end
section
namespace Go.Proofs.Ythfoanmokcepcaa.DS
open Go.Proofs.Ythfoanmokcepcaa.H Go.Proofs.Ythfoanmokcepcaa.AS
set_option linter.unusedVariables false
set_option linter.unusedSimpArgs false
/-- A file: bytes, the first of which are safe. -/
structure Fl where
  b : List Int
  safe : Int
abbrev Nm := By × Nat
/-- A name's act: 1 a file's beginning, 2 a rename, 3 a removal. -/
structure AC where
  kind : Int
  a : By
  b : By
  f : Nat
structure DK where
  room : Int
  files : List Fl
  now : List Nm
  safe : List Nm
  acts : List AC
  cut : Bool
  left : Int
  off : Bool
  ops : Int
def fl0 : Fl := ⟨[], 0⟩
def nm0 : Nm := ([], 0)
def ac0 : AC := ⟨0, [], [], 0⟩
def look (l : List Nm) (n : By) : Option Nat := (l.find? fun x => x.1 == n).map (·.2)
def without (l : List Nm) (n : By) : List Nm := l.filter fun x => !(x.1 == n)
def withN (l : List Nm) (n : By) (i : Nat) : List Nm := (l.filter fun x => bl_ x.1 n) ++ (n, i) :: l.filter fun x => bl_ n x.1
def applyA (l : List Nm) (a : AC) : List Nm := if a.kind = 1 then withN l a.a a.f else if a.kind = 2 then withN (without l a.a) a.b a.f else without l a.a
/-- Names rise. -/
def Srt (l : List Nm) : Prop := l.Pairwise fun x y => bl_ x.1 y.1 = true
theorem bl_ne {a b : By} (h : bl_ a b = true) : a ≠ b := fun e => by rw [e, bl_irrefl] at h; cases h
theorem bl_or {a b : By} (h : a ≠ b) : bl_ a b = true ∨ bl_ b a = true := by
  cases e : bl_ a b with
  | true => exact .inl rfl
  | false => rcases bl_tri a b e with e' | e'; exact absurd e' h; exact .inr e'
theorem find_filter {α : Type} (p q : α → Bool) (l : List α) (h : ∀ x, p x = true → q x = true) : (l.filter q).find? p = l.find? p := by
  induction l with
  | nil => rfl
  | cons x l ih =>
    rw [List.filter_cons]
    cases hp : p x with
    | true => rw [if_pos (h x hp), List.find?_cons_of_pos hp, List.find?_cons_of_pos hp]
    | false =>
      rw [List.find?_cons_of_neg (by rw [hp]; exact Bool.false_ne_true)]
      split
      · rw [List.find?_cons_of_neg (by rw [hp]; exact Bool.false_ne_true), ih]
      · exact ih
theorem find_none {α : Type} (p q : α → Bool) (l : List α) (h : ∀ x, p x = true → q x = false) : (l.filter q).find? p = none := by
  rw [List.find?_eq_none]
  intro x hx hp
  have := (List.mem_filter.1 hx).2
  rw [h x hp] at this
  cases this
theorem look_without (l : List Nm) (m n : By) : look (without l m) n = if n = m then none else look l n := by
  unfold look without
  by_cases e : n = m
  · rw [if_pos e, find_none]
    · rfl
    · intro x hx
      simp only [beq_iff_eq] at hx
      simp [hx, e]
  · rw [if_neg e, find_filter]
    intro x hx
    simp only [beq_iff_eq] at hx
    simp [hx, e]
theorem look_with (l : List Nm) (m n : By) (i : Nat) : look (withN l m i) n = if n = m then some i else look l n := by
  unfold look withN
  rw [List.find?_append]
  by_cases e : n = m
  · subst e
    rw [if_pos rfl, find_none]
    · simp
    · intro x hx
      simp only [beq_iff_eq] at hx
      rw [hx, bl_irrefl]
  · rw [if_neg e, List.find?_cons_of_neg (by simpa using fun e' => e e'.symm)]
    rcases bl_or e with h | h
    · rw [find_filter _ _ _ (by intro x hx; simp only [beq_iff_eq] at hx; rw [hx]; exact h), find_none _ (fun x : Nm => bl_ m x.1)]
      · simp
      · intro x hx
        simp only [beq_iff_eq] at hx
        rw [hx]
        exact bl_asymm h
    · rw [find_none _ (fun x : Nm => bl_ x.1 m), find_filter _ _ _ (by intro x hx; simp only [beq_iff_eq] at hx; rw [hx]; exact h)]
      · simp
      · intro x hx
        simp only [beq_iff_eq] at hx
        rw [hx]
        exact bl_asymm h
theorem srt_without {l : List Nm} (h : Srt l) (n : By) : Srt (without l n) := List.Pairwise.filter _ h
theorem srt_with {l : List Nm} (h : Srt l) (n : By) (i : Nat) : Srt (withN l n i) := by
  unfold Srt withN
  rw [List.pairwise_append]
  refine ⟨List.Pairwise.filter _ h, ?_, ?_⟩
  · rw [List.pairwise_cons]
    exact ⟨fun x hx => (List.mem_filter.1 hx).2, List.Pairwise.filter _ h⟩
  · intro x hx y hy
    have h1 := (List.mem_filter.1 hx).2
    rcases List.mem_cons.1 hy with rfl | hy
    · exact h1
    · exact bl_trans _ _ _ h1 (List.mem_filter.1 hy).2
theorem srt_apply {l : List Nm} (h : Srt l) (a : AC) : Srt (applyA l a) := by
  unfold applyA
  split
  · exact srt_with h _ _
  · split
    · exact srt_with (srt_without h _) _ _
    · exact srt_without h _
theorem srt_foldl {l : List Nm} (h : Srt l) (ac : List AC) : Srt (ac.foldl applyA l) := by
  induction ac generalizing l with
  | nil => exact h
  | cons a ac ih => exact ih (srt_apply h a)
theorem look_none {l : List Nm} {n : By} : look l n = none ↔ ∀ x ∈ l, x.1 ≠ n := by
  unfold look
  simp
theorem look_mem {l : List Nm} (h : Srt l) {n : By} {i : Nat} : look l n = some i ↔ (n, i) ∈ l := by
  unfold look
  constructor
  · intro hh
    obtain ⟨x, hx, rfl⟩ := Option.map_eq_some_iff.1 hh
    have h1 := List.find?_some hx
    have h2 := List.mem_of_find?_eq_some hx
    simp only [beq_iff_eq] at h1
    rw [← h1]
    exact h2
  · intro hm
    cases hf : l.find? (fun x => x.1 == n) with
    | none =>
      have := List.find?_eq_none.1 hf _ hm
      simp at this
    | some y =>
      have h1 := List.find?_some hf
      simp only [beq_iff_eq] at h1
      have h2 := List.mem_of_find?_eq_some hf
      have : y = (n, i) := by
        rcases List.mem_iff_getElem.1 h2 with ⟨j, hj, rfl⟩
        rcases List.mem_iff_getElem.1 hm with ⟨k, hk, hke⟩
        have hp := List.pairwise_iff_getElem.1 h
        rcases Nat.lt_trichotomy j k with hjk | rfl | hjk
        · have := hp j k hj hk hjk
          rw [hke, h1, bl_irrefl] at this
          cases this
        · exact hke
        · have := hp k j hk hj hjk
          rw [hke, h1, bl_irrefl] at this
          cases this
      rw [this]
      rfl
/-- How many there are. -/
theorem len_part {l : List Nm} (n : By) : (l.filter fun x => bl_ x.1 n).length + (l.filter fun x => bl_ n x.1).length = (without l n).length := by
  unfold without
  induction l with
  | nil => rfl
  | cons x l ih =>
    simp only [List.filter_cons]
    by_cases e : x.1 = n
    · have e1 : bl_ x.1 n = false := by rw [e, bl_irrefl]
      have e2 : bl_ n x.1 = false := by rw [e, bl_irrefl]
      rw [e1, e2]
      simpa [e] using ih
    · rcases bl_or e with h | h
      · rw [h, bl_asymm h]
        simp [e]
        omega
      · rw [h, bl_asymm h]
        simp [e]
        omega
theorem len_with (l : List Nm) (n : By) (i : Nat) : (withN l n i).length = (without l n).length + 1 := by
  unfold withN
  rw [List.length_append, List.length_cons, ← len_part (l := l) n]
  exact (Nat.add_assoc _ _ _).symm
theorem len_without {l : List Nm} (h : Srt l) (n : By) : (without l n).length = if (look l n).isSome then l.length - 1 else l.length := by
  induction l with
  | nil => rfl
  | cons x l ih =>
    have hl : Srt l := (List.pairwise_cons.1 h).2
    have hx := (List.pairwise_cons.1 h).1
    by_cases e : x.1 = n
    · have h1 : look (x :: l) n = some x.2 := by unfold look; rw [List.find?_cons_of_pos (by simp [e])]; rfl
      have h2 : look l n = none := look_none.2 fun y hy e' => by
        have := hx y hy
        rw [e, e', bl_irrefl] at this
        cases this
      have h3 := ih hl
      rw [h2] at h3
      rw [h1]
      unfold without at h3 ⊢
      rw [List.filter_cons, if_neg (by simp [e]), h3]
      simp
    · have h1 : look (x :: l) n = look l n := by unfold look; rw [List.find?_cons_of_neg (by simp [e])]
      have h3 := ih hl
      rw [h1]
      unfold without at h3 ⊢
      rw [List.filter_cons, if_pos (by simp [e]), List.length_cons, h3]
      cases hk : look l n with
      | none => simp
      | some i =>
        have : l ≠ [] := fun e => by rw [e] at hk; cases hk
        have := List.length_pos_iff.2 this
        simp
        omega
/-- What is asked of a disk, ahead of all else. -/
def DK.ask (D : DK) : DK := if D.off = true ∨ (D.cut = true ∧ D.left = 0) then { D with ops := D.ops + 1, off := true } else { D with ops := D.ops + 1, left := D.left - 1 }
def okN (n : By) : Bool := decide (1 ≤ n.length ∧ n.length ≤ 100)
def DK.used (D : DK) : Int := (D.now.map fun x => ((D.files.getD x.2 fl0).b.length : Int)).sum
def DK.name (D : DK) (a : AC) : DK := { D with now := applyA D.now a, acts := D.acts ++ [a] }
def DK.setF (D : DK) (i : Nat) (f : Fl) : DK := { D with files := D.files.set i f }
/-- The error that an act on names has ahead of its own. -/
def DK.err (D : DK) (ns : List By) : Int := if D.ask.off = true then 7 else if ns.all okN = true then 0 else 1
def DK.append (D : DK) (n : By) (b : List Int) : DK × Int :=
  if D.err [n] ≠ 0 then (D.ask, D.err [n])
  else if D.room - D.used < (b.length : Int) then (D.ask, 4)
  else match look D.now n with
    | some i => (D.ask.setF i ⟨(D.files.getD i fl0).b ++ b, (D.files.getD i fl0).safe⟩, 0)
    | none => (({ D.ask with files := D.files ++ [fl0] }.name ⟨1, n, [], D.files.length⟩).setF D.files.length ⟨b, 0⟩, 0)
def DK.truncate (D : DK) (n : By) (k : Int) : DK × Int :=
  if D.err [n] ≠ 0 then (D.ask, D.err [n])
  else match look D.now n with
    | none => (D.ask, 5)
    | some i => if k < 0 ∨ ((D.files.getD i fl0).b.length : Int) < k then (D.ask, 1) else (D.ask.setF i ⟨(D.files.getD i fl0).b.take k.toNat, k⟩, 0)
def DK.sync (D : DK) (n : By) : DK × Int :=
  if D.err [n] ≠ 0 then (D.ask, D.err [n])
  else match look D.now n with
    | none => (D.ask, 5)
    | some i => (D.ask.setF i ⟨(D.files.getD i fl0).b, (D.files.getD i fl0).b.length⟩, 0)
def DK.rename (D : DK) (n m : By) : DK × Int :=
  if D.err [n, m] ≠ 0 then (D.ask, D.err [n, m])
  else match look D.now n with
    | none => (D.ask, 5)
    | some i => if n = m then (D.ask, 1) else (D.ask.name ⟨2, n, m, i⟩, 0)
def DK.remove (D : DK) (n : By) : DK × Int :=
  if D.err [n] ≠ 0 then (D.ask, D.err [n])
  else match look D.now n with
    | none => (D.ask, 5)
    | some _ => (D.ask.name ⟨3, n, [], 0⟩, 0)
def DK.syncDir (D : DK) : DK × Int := if D.err [] ≠ 0 then (D.ask, D.err []) else ({ D.ask with safe := D.now, acts := [] }, 0)
def DK.cutAt (D : DK) (n : Int) : DK := { D with cut := true, left := max n 0 }
def DK.read (D : DK) (n : By) : List Int × Int := match look D.now n with
  | none => ([], 5)
  | some i => ((D.files.getD i fl0).b, 0)
/-- What of n things a pick says. -/
def part (picks : List Int) (n : Int) : Int := match picks with
  | [] => 0
  | k :: _ => k % (n + 1)
/-- The files behind a crash. -/
def crashF (files : List Fl) : List Nm → List Int → List Fl
  | [], _ => []
  | x :: l, picks =>
    let f := files.getD x.2 fl0
    if f.safe < f.b.length then ⟨f.b.take (f.safe + part picks (f.b.length - f.safe)).toNat, f.safe + part picks (f.b.length - f.safe)⟩ :: crashF files l picks.tail
    else ⟨f.b.take f.safe.toNat, f.safe⟩ :: crashF files l picks
def numbered (l : List Nm) (k : Nat) : List Nm := match l with
  | [] => []
  | x :: l => (x.1, k) :: numbered l (k + 1)
def DK.crash (D : DK) (picks : List Int) : DK :=
  let l := (D.acts.take (part picks D.acts.length).toNat).foldl applyA D.safe
  let fs := crashF D.files l picks.tail
  ⟨D.room, fs, numbered l 0, numbered l 0, [], false, 0, false, 0⟩
def DK.new (room : Int) : DK := ⟨room, [], [], [], [], false, 0, false, 0⟩
end Go.Proofs.Ythfoanmokcepcaa.DS
end
section
namespace Go.Proofs.Ythfoanmokcepcaa.DS
open Go.Proofs.Ythfoanmokcepcaa.H Go.Proofs.Ythfoanmokcepcaa.AS
set_option linter.unusedVariables false
set_option linter.unusedSimpArgs false
set_option maxRecDepth 100000
/-- From s with one's own h to s' with one's own h': all else is kept. -/
def Turn (s h s' h' : HS) : Prop := HS.le h' s' ∧ ∀ k ob, h k = none → s k = some ob → s' k = some ob ∧ h' k = none
section
variable {s t u h g f : HS}
theorem Turn.refl (hl : HS.le h s) : Turn s h s h := ⟨hl, fun k ob h1 h2 => ⟨h2, h1⟩⟩
theorem Turn.trans (a : Turn s h t g) (b : Turn t g u f) : Turn s h u f := ⟨b.1, fun k ob h1 h2 => let ⟨x, y⟩ := a.2 k ob h1 h2; b.2 k ob y x⟩
theorem Turn.set (hl : HS.le h s) {k : Nat} {ob0 : HObj} (hk : h k = some ob0) (ob : HObj) : Turn s h (s.set k ob) (h.set k ob) := by
  refine ⟨le_set hl k ob, fun j o h1 h2 => ?_⟩
  have hne : j ≠ k := fun e => by rw [e, hk] at h1; cases h1
  rw [set_ne _ _ hne, set_ne _ _ hne]
  exact ⟨h2, h1⟩
theorem Turn.new (hl : HS.le h s) {k : Nat} (hk : s k = none) (ob : HObj) : Turn s h (s.set k ob) (h.set k ob) := by
  refine ⟨le_set hl k ob, fun j o h1 h2 => ?_⟩
  have hne : j ≠ k := fun e => by rw [e, hk] at h2; cases h2
  rw [set_ne _ _ hne, set_ne _ _ hne]
  exact ⟨h2, h1⟩
theorem Turn.junk (hl : HS.le h s) (hle : HS.le s t) : Turn s h t h := ⟨HS.le.trans hl hle, fun k ob h1 h2 => ⟨hle _ _ h2, h1⟩⟩
theorem Turn.del (hl : HS.le h s) {k : Nat} {ob0 : HObj} (hk : h k = some ob0) : Turn s h (s.del k) (h.del k) := by
  refine ⟨fun j o hj => ?_, fun j o h1 h2 => ?_⟩
  · by_cases e : j = k
    · subst e; rw [del_at] at hj; cases hj
    · rw [del_ne _ e] at hj ⊢; exact hl _ _ hj
  · have hne : j ≠ k := fun e => by rw [e, hk] at h1; cases h1
    rw [del_ne _ hne, del_ne _ hne]
    exact ⟨h2, h1⟩
theorem Turn.drop (a : Turn s h t g) {g' : HS} (hle : HS.le g' g) : Turn s h t g' := ⟨HS.le.trans hle a.1, fun k ob h1 h2 => let ⟨x, y⟩ := a.2 k ob h1 h2; ⟨x, none_of_le hle y⟩⟩
/-- What was another's own still is. -/
theorem Turn.other (a : Turn s h t g) {o : HS} (hl : HS.le o s) (hd : ∀ k ob, o k = some ob → h k = none) : HS.le o t ∧ ∀ k ob, o k = some ob → g k = none :=
  ⟨fun k ob hk => (a.2 k ob (hd k ob hk) (hl _ _ hk)).1, fun k ob hk => (a.2 k ob (hd k ob hk) (hl _ _ hk)).2⟩
end
/-- A file's row of bytes: nil; its own; or one that is never written again. -/
def FRow (h : HS) (B : HV) (l : List Int) : Prop := (B = nilV ∧ l = []) ∨ (∃ q f, B = .view q 0 1 l.length f ∧ h q = some (.cells (bl l))) ∨ B = .list 1 l.length (bl l) true
theorem FRow.one {h : HS} {B : HV} {l : List Int} (k : FRow h B l) : hone B = true := by
  rcases k with ⟨rfl, -⟩ | ⟨q, f, rfl, -⟩ | rfl <;> rfl
theorem FRow.hc {h : HS} {B : HV} {l : List Int} (k : FRow h B l) : hcells B = some [B] := by
  rcases k with ⟨rfl, -⟩ | ⟨q, f, rfl, -⟩ | rfl <;> rfl
theorem FRow.len {h : HS} {B : HV} {l : List Int} (k : FRow h B l) (e : Nat) (s : HS) : vLenT (some (.slice e)) s B = some (.lit (.int .i64 l.length)) := by
  rcases k with ⟨rfl, rfl⟩ | ⟨q, f, rfl, -⟩ | rfl <;> rfl
theorem FRow.llen {h : HS} {B : HV} {l : List Int} (k : FRow h B l) : llen B = l.length := by
  rcases k with ⟨rfl, rfl⟩ | ⟨q, f, rfl, -⟩ | rfl <;> rfl
theorem FRow.cells {h s : HS} {B : HV} {l : List Int} (k : FRow h B l) (hle : HS.le h s) : lcells s 1 B = some (bl l) := by
  rcases k with ⟨rfl, rfl⟩ | ⟨q, f, rfl, hq⟩ | rfl
  · rfl
  · have hq' := hle _ _ hq
    simp [lcells, hq', bl_len, List.take_of_length_le]
  · simp [lcells]
theorem FRow.keep {h h' : HS} {B : HV} {l : List Int} (k : FRow h B l) (hk : ∀ q ob, accId B = some q → h q = some ob → h' q = some ob) : FRow h' B l := by
  rcases k with k | ⟨q, f, rfl, hq⟩ | k
  · exact .inl k
  · exact .inr (.inl ⟨q, f, rfl, hk q _ rfl hq⟩)
  · exact .inr (.inr k)
theorem FRow.own {h : HS} {B : HV} {l : List Int} (k : FRow h B l) {q : Nat} (hq : accId B = some q) : ∃ ob, h q = some ob := by
  rcases k with ⟨rfl, -⟩ | ⟨q', f, rfl, hq'⟩ | rfl
  · cases hq
  · cases hq; exact ⟨_, hq'⟩
  · cases hq
/-- Bytes put behind a file's. -/
theorem FRow.app {s h : HS} {B x : HV} {l y : List Int} {K : HV → HS → Prop} (k : FRow h B l) (hle : HS.le h s) (hx : lcells s 1 x = some (bl y)) (hy : H.llen x = y.length) (hr : room (l.length + y.length) 1) (hr' : room y.length 1)
    (hK : ∀ B' s' h', FRow h' B' (l ++ y) → Turn s h s' h' → (∀ j ob, accId B ≠ some j → h j = some ob → h' j = some ob) → (∀ j, accId B' = some j → accId B = some j ∨ s j = none) → K B' s') : hAppend s 1 1 B x K := by
  have hbl : bl (l ++ y) = bl l ++ bl y := by simp [bl]
  unfold hAppend
  rw [hx]
  rcases k with ⟨rfl, rfl⟩ | ⟨q, f, rfl, hq⟩ | rfl
  · show (if H.llen x = 0 then K nilV s else _)
    rw [hy]
    split
    · rename_i e
      have : y = [] := List.length_eq_zero_iff.1 e
      subst this
      exact hK _ _ h (.inl ⟨rfl, rfl⟩) (Turn.refl hle) (fun _ _ _ h => h) (fun j hj => by cases hj)
    · refine ⟨hr', fun id hid => ?_⟩
      refine hK _ _ (h.set id (.cells (bl y))) (.inr (.inl ⟨id, _, rfl, set_at _ _ _⟩)) (Turn.new hle hid _) (fun j ob _ hj => ?_) (fun j hj => by cases hj; exact .inr hid)
      rw [set_ne _ _ (ne_new (hle _ _ hj) hid)]
      exact hj
  · have hq' := hle _ _ hq
    simp only [hq', hy]
    refine ⟨trivial, by simp [bl_len], ?_⟩
    have hcut : ((bl l).drop 0).take (l.length * 1) = bl l := by rw [List.drop_zero, Nat.mul_one]; exact List.take_of_length_le (by rw [bl_len]; exact Nat.le_refl _)
    cases f with
    | true =>
      simp only [if_true]
      split
      · rename_i e
        have : y = [] := List.length_eq_zero_iff.1 e
        subst this
        rw [List.append_nil] at hK
        exact hK _ _ h (.inr (.inl ⟨q, _, rfl, hq⟩)) (Turn.refl hle) (fun _ _ _ h => h) (fun j hj => .inl hj)
      · refine ⟨hr, fun id hid => ?_⟩
        rw [hcut, ← hbl]
        refine hK _ _ (h.set id (.cells (bl (l ++ y)))) (.inr (.inl ⟨id, _, by rw [List.length_append], set_at _ _ _⟩)) (Turn.new hle hid _) (fun j ob _ hj => ?_) (fun j hj => by cases hj; exact .inr hid)
        rw [set_ne _ _ (ne_new (hle _ _ hj) hid)]
        exact hj
    | false =>
      simp only [Bool.false_eq_true, if_false, bl_len, Nat.zero_add, Nat.mul_one, if_true]
      refine ⟨hr, fun id hid => ?_⟩
      rw [List.drop_zero, ← hbl]
      have hne : q ≠ id := ne_new hq' hid
      refine hK _ _ ((h.del q).set id (.cells (bl (l ++ y)))) (.inr (.inl ⟨id, _, by rw [List.length_append], set_at _ _ _⟩)) ?_ (fun j ob hj1 hj => ?_) (fun j hj => by cases hj; exact .inr hid)
      · exact (Turn.del hle hq).trans (Turn.new (Turn.del hle hq).1 (by rw [del_ne _ (Ne.symm hne)]; exact hid) _)
      · rw [set_ne _ _ (ne_new (hle _ _ hj) hid), del_ne _ (fun e => hj1 (by rw [e]; rfl))]
        exact hj
  · simp only [hy]
    refine ⟨trivial, trivial, ?_⟩
    split
    · rename_i e
      have : y = [] := List.length_eq_zero_iff.1 e
      subst this
      rw [List.append_nil] at hK
      exact hK _ _ h (.inr (.inr rfl)) (Turn.refl hle) (fun _ _ _ h => h) (fun j hj => by cases hj)
    · refine ⟨hr, fun id hid => ?_⟩
      rw [← hbl]
      refine hK _ _ (h.set id (.cells (bl (l ++ y)))) (.inr (.inl ⟨id, _, by rw [List.length_append], set_at _ _ _⟩)) (Turn.new hle hid _) (fun j ob _ hj => ?_) (fun j hj => by cases hj; exact .inr hid)
      rw [set_ne _ _ (ne_new (hle _ _ hj) hid)]
      exact hj
end Go.Proofs.Ythfoanmokcepcaa.DS
end
section
namespace Go.Proofs.Ythfoanmokcepcaa.DS
open Go.Proofs.Ythfoanmokcepcaa.H Go.Proofs.Ythfoanmokcepcaa.AS
set_option linter.unusedVariables false
set_option linter.unusedSimpArgs false
set_option maxRecDepth 100000
def encS (n : By) : Value := .string ⟨n.toArray⟩
theorem encS_inj {a b : By} (h : encS a = encS b) : a = b := by
  injection h with h
  have := congrArg (fun x : ByteArray => x.data.toList) h
  simpa using this
def nmF (fid : Nat → Nat) (l : List Nm) : Value → Option HV := fun k => match k with
  | .string s => (look l s.data.toList).map fun i => .ptr (fid i) 0
  | _ => none
section
variable {fid : Nat → Nat} {l : List Nm}
theorem nmF_at (n : By) : nmF fid l (encS n) = (look l n).map fun i => .ptr (fid i) 0 := by simp [nmF, encS]
theorem nmF_str {k : Value} {x : HV} (h : nmF fid l k = some x) : ∃ n i, k = encS n ∧ look l n = some i ∧ x = .ptr (fid i) 0 := by
  unfold nmF at h
  split at h
  · rename_i s
    obtain ⟨i, h1, h2⟩ := Option.map_eq_some_iff.1 h
    exact ⟨s.data.toList, i, by simp [encS], h1, h2.symm⟩
  · cases h
theorem nmF_put (n : By) (i : Nat) : fput (nmF fid l) (encS n) (some (.ptr (fid i) 0)) = nmF fid (withN l n i) := by
  funext k
  unfold fput
  split
  · rename_i e
    rw [e, nmF_at, look_with, if_pos rfl]
    rfl
  · rename_i e
    unfold nmF
    split
    · rename_i s
      rw [look_with, if_neg]
      intro e'
      exact e (by rw [← e']; simp [encS])
    · rfl
theorem nmF_del (n : By) : fput (nmF fid l) (encS n) none = nmF fid (without l n) := by
  funext k
  unfold fput
  split
  · rename_i e
    rw [e, nmF_at, look_without, if_pos rfl]
    rfl
  · rename_i e
    unfold nmF
    split
    · rename_i s
      rw [look_without, if_neg]
      intro e'
      exact e (by rw [← e']; simp [encS])
    · rfl
theorem nmF_congr {fid' : Nat → Nat} (h : ∀ x ∈ l, fid' x.2 = fid x.2) (hs : Srt l) : nmF fid' l = nmF fid l := by
  funext k
  unfold nmF
  split
  · rename_i s
    cases hk : look l s.data.toList with
    | none => rfl
    | some i =>
      have := h _ ((look_mem hs).1 hk)
      simp only at this
      rw [Option.map_some, Option.map_some, this]
  · rfl
end
def nilP : HV := .lit (.pointer none)
def dC (D : DK) (mn ms : Nat) (A : HV) : List HV := [.lit (.int .i64 D.room), .map mn, .map ms, A, .lit (.bool D.cut), .lit (.bool D.off), .lit (.int .i64 D.left), .lit (.int .i64 D.ops)]
/-- A name's act, as the program has it: from, to, the file. -/
def acP (fid : Nat → Nat) (a : AC) : List HV := if a.kind = 1 then [strV [], strV a.a, .ptr (fid a.f) 0] else if a.kind = 2 then [strV a.a, strV a.b, nilP] else [strV a.a, strV [], nilP]
theorem acP_len (fid : Nat → Nat) (a : AC) : (acP fid a).length = 3 := by unfold acP; split; rfl; split <;> rfl
theorem acP_one (fid : Nat → Nat) (a : AC) : ∀ y ∈ acP fid a, hone y = true := by
  intro y hy
  unfold acP at hy
  split at hy
  · simp only [List.mem_cons, List.not_mem_nil, or_false] at hy
    rcases hy with rfl | rfl | rfl <;> rfl
  · split at hy
    · simp only [List.mem_cons, List.not_mem_nil, or_false] at hy
      rcases hy with rfl | rfl | rfl <;> rfl
    · simp only [List.mem_cons, List.not_mem_nil, or_false] at hy
      rcases hy with rfl | rfl | rfl <;> rfl
/-- A row of its own, that grows. -/
def ORow (h : HS) (sz : Nat) (A : HV) (n : Nat) (cs : List HV) : Prop := (A = nilV ∧ cs = [] ∧ n = 0) ∨ ∃ q f, A = .view q 0 sz n f ∧ h q = some (.cells cs) ∧ cs.length = n * sz
theorem ORow.keep {h h' : HS} {sz : Nat} {A : HV} {n : Nat} {cs : List HV} (k : ORow h sz A n cs) (hk : ∀ q ob, accId A = some q → h q = some ob → h' q = some ob) : ORow h' sz A n cs := by
  rcases k with k | ⟨q, f, rfl, h1, h2⟩
  · exact .inl k
  · exact .inr ⟨q, f, rfl, hk q _ rfl h1, h2⟩
theorem ORow.one {h : HS} {sz : Nat} {A : HV} {n : Nat} {cs : List HV} (k : ORow h sz A n cs) : hone A = true := by
  rcases k with ⟨rfl, -⟩ | ⟨q, f, rfl, -⟩ <;> rfl
theorem ORow.hc {h : HS} {sz : Nat} {A : HV} {n : Nat} {cs : List HV} (k : ORow h sz A n cs) : hcells A = some [A] := by
  rcases k with ⟨rfl, -⟩ | ⟨q, f, rfl, -⟩ <;> rfl
theorem ORow.own {h : HS} {sz : Nat} {A : HV} {n : Nat} {cs : List HV} (k : ORow h sz A n cs) {q : Nat} (hq : accId A = some q) : h q = some (.cells cs) := by
  rcases k with ⟨rfl, -⟩ | ⟨q', f, rfl, hq', -⟩
  · cases hq
  · cases hq; exact hq'
/-- A disk, in the memory that is its own. -/
structure PD (h : HS) (d : Nat) (D : DK) (tag : Nat → Nat) (mn ms : Nat) (A : HV) (fid : Nat → Nat) (B : Nat → HV) : Prop where
  at_ : h d = some (.cells (dC D mn ms A))
  now : h mn = some (.map .string (nmF fid D.now) D.now.length)
  safe : h ms = some (.map .string (nmF fid D.safe) D.safe.length)
  ne : mn ≠ ms
  acts : ORow h 3 A D.acts.length (rows (acP fid) D.acts)
  td : tag d = 0 ∧ tag mn = 0 ∧ tag ms = 0
  ta : ∀ q, accId A = some q → tag q = 0 ∧ q ≠ d
  file : ∀ i, i < D.files.length → h (fid i) = some (.cells [B i, .lit (.int .i64 (D.files.getD i fl0).safe)]) ∧ FRow h (B i) (D.files.getD i fl0).b
  ti : ∀ i, i < D.files.length → tag (fid i) = i + 1 ∧ ∀ q, accId (B i) = some q → tag q = i + 1 ∧ q ≠ fid i
def PS (h : HS) (d : Nat) (D : DK) : Prop := ∃ tag mn ms A fid B, PD h d D tag mn ms A fid B
/-- What holds of a disk: K bounds all. -/
structure Wf (K : Nat) (D : DK) : Prop where
  sn : Srt D.now
  ss : Srt D.safe
  nn : ∀ x ∈ D.now, x.2 < D.files.length
  ns : ∀ x ∈ D.safe, x.2 < D.files.length
  room : 0 ≤ D.room ∧ D.room ≤ 1099511627776
  fl : ∀ f ∈ D.files, f.b.length ≤ K ∧ 0 ≤ f.safe ∧ f.safe ≤ f.b.length
  nf : D.files.length ≤ K
  nw : D.now.length ≤ K
  na : D.acts.length ≤ K
  left : -(K : Int) ≤ D.left ∧ D.left ≤ 9223372036854775807
  ops : 0 ≤ D.ops ∧ D.ops ≤ K
  k : K ≤ 1000000
  nl : ∀ x ∈ D.now, x.1.length ≤ 100
  sl : ∀ x ∈ D.safe, x.1.length ≤ 100
  nsf : D.safe.length ≤ K
end Go.Proofs.Ythfoanmokcepcaa.DS
end
section
namespace Go.Proofs.Ythfoanmokcepcaa.DS
open Go.Proofs.Ythfoanmokcepcaa.H Go.Proofs.Ythfoanmokcepcaa.AS
set_option linter.unusedVariables false
set_option linter.unusedSimpArgs false
theorem mem_without {l : List Nm} {n : By} {x : Nm} (h : x ∈ without l n) : x ∈ l := (List.mem_filter.1 h).1
theorem mem_with {l : List Nm} {n : By} {i : Nat} {x : Nm} (h : x ∈ withN l n i) : x ∈ l ∨ x = (n, i) := by
  unfold withN at h
  rcases List.mem_append.1 h with h | h
  · exact .inl (List.mem_filter.1 h).1
  · rcases List.mem_cons.1 h with h | h
    · exact .inr h
    · exact .inl (List.mem_filter.1 h).1
theorem mem_apply {l : List Nm} {a : AC} {x : Nm} (h : x ∈ applyA l a) : x ∈ l ∨ ((a.kind = 1 ∨ a.kind = 2) ∧ x.2 = a.f) := by
  unfold applyA at h
  split at h
  · rename_i hk
    rcases mem_with h with h | rfl
    · exact .inl h
    · exact .inr ⟨.inl hk, rfl⟩
  · split at h
    · rename_i hk
      rcases mem_with h with h | rfl
      · exact .inl (mem_without h)
      · exact .inr ⟨.inr hk, rfl⟩
    · exact .inl (mem_without h)
theorem mem_applyN {l : List Nm} {a : AC} {x : Nm} (h : x ∈ applyA l a) : x ∈ l ∨ (a.kind = 1 ∧ x.1 = a.a) ∨ (a.kind = 2 ∧ x.1 = a.b) := by
  unfold applyA at h
  split at h
  · rename_i hk
    rcases mem_with h with h | rfl
    · exact .inl h
    · exact .inr (.inl ⟨hk, rfl⟩)
  · split at h
    · rename_i hk
      rcases mem_with h with h | rfl
      · exact .inl (mem_without h)
      · exact .inr (.inr ⟨hk, rfl⟩)
    · exact .inl (mem_without h)
theorem okN_len {n : By} (h : okN n = true) : n.length ≤ 100 := (of_decide_eq_true h).2
theorem len_without_le (l : List Nm) (n : By) : (without l n).length ≤ l.length := List.length_filter_le _ _
theorem len_apply (l : List Nm) (a : AC) : (applyA l a).length ≤ l.length + 1 := by
  unfold applyA
  split
  · rw [len_with]; have := len_without_le l a.a; omega
  · split
    · rw [len_with]
      have h1 := len_without_le (without l a.a) a.b
      have h2 := len_without_le l a.a
      omega
    · have := len_without_le l a.a; omega
def ValA (n : Nat) (l : List Nm) (a : AC) : Prop := (a.kind = 1 ∧ a.f < n ∧ okN a.a = true) ∨ (a.kind = 2 ∧ look l a.a = some a.f ∧ okN a.a = true ∧ okN a.b = true) ∨ (a.kind = 3 ∧ okN a.a = true)
def Val (n : Nat) : List Nm → List AC → Prop
  | _, [] => True
  | l, a :: ac => ValA n l a ∧ Val n (applyA l a) ac
theorem ValA.mono {n n' : Nat} {l : List Nm} {a : AC} (h : ValA n l a) (hn : n ≤ n') : ValA n' l a := by
  rcases h with ⟨h1, h2, h3⟩ | h
  · exact .inl ⟨h1, by omega, h3⟩
  · exact .inr h
theorem Val.mono {n n' : Nat} (hn : n ≤ n') : ∀ {ac : List AC} {l : List Nm}, Val n l ac → Val n' l ac
  | [], _, _ => trivial
  | a :: ac, l, ⟨h1, h2⟩ => ⟨h1.mono hn, h2.mono hn⟩
theorem Val.snoc {n : Nat} : ∀ {ac : List AC} {l : List Nm} {a : AC}, Val n l ac → ValA n (ac.foldl applyA l) a → Val n l (ac ++ [a])
  | [], _, _, _, h => ⟨h, trivial⟩
  | b :: ac, l, a, ⟨h1, h2⟩, h => ⟨h1, Val.snoc h2 h⟩
theorem Val.take {n : Nat} : ∀ {ac : List AC} {l : List Nm} (k : Nat), Val n l ac → Val n l (ac.take k)
  | [], l, k, _ => by rw [List.take_nil]; trivial
  | a :: ac, l, 0, _ => trivial
  | a :: ac, l, k + 1, ⟨h1, h2⟩ => ⟨h1, Val.take k h2⟩
theorem mem_foldl {n : Nat} : ∀ {ac : List AC} {l : List Nm}, Val n l ac → (∀ x ∈ l, x.2 < n) → ∀ x ∈ ac.foldl applyA l, x.2 < n
  | [], _, _, h => h
  | a :: ac, l, ⟨h1, h2⟩, h => mem_foldl (ac := ac) (l := applyA l a) h2 fun x hx => by
    rcases mem_apply hx with hx | ⟨hk, e⟩
    · exact h x hx
    · rcases h1 with ⟨k1, k2, -⟩ | ⟨k1, k2, -⟩ | ⟨k1, -⟩
      · omega
      · unfold look at k2
        obtain ⟨y, hy, e'⟩ := Option.map_eq_some_iff.1 k2
        have := h y (List.mem_of_find?_eq_some hy)
        omega
      · omega
theorem len_foldl (ac : List AC) (l : List Nm) : (ac.foldl applyA l).length ≤ l.length + ac.length := by
  induction ac generalizing l with
  | nil => exact Nat.le_refl _
  | cons a ac ih =>
    have h1 := ih (applyA l a)
    have h2 := len_apply l a
    simp only [List.foldl_cons, List.length_cons] at *
    omega
theorem nl_foldl {n : Nat} : ∀ {ac : List AC} {l : List Nm}, Val n l ac → (∀ x ∈ l, x.1.length ≤ 100) → ∀ x ∈ ac.foldl applyA l, x.1.length ≤ 100
  | [], _, _, h => h
  | a :: ac, l, ⟨h1, h2⟩, h => nl_foldl (ac := ac) (l := applyA l a) h2 fun x hx => by
    rcases mem_applyN hx with hx | ⟨hk, e⟩ | ⟨hk, e⟩
    · exact h x hx
    · rw [e]
      rcases h1 with ⟨-, -, k⟩ | ⟨k1, -⟩ | ⟨k1, -⟩
      · exact okN_len k
      · omega
      · omega
    · rw [e]
      rcases h1 with ⟨k1, -⟩ | ⟨-, -, -, k⟩ | ⟨k1, -⟩
      · omega
      · exact okN_len k
      · omega
/-- The names are what the safe ones have become by the acts. -/
structure Ch (D : DK) : Prop where
  now : D.now = D.acts.foldl applyA D.safe
  val : Val D.files.length D.safe D.acts
section
variable {K : Nat} {D : DK}
theorem Wf.mono {K' : Nat} (h : Wf K D) (hk : K ≤ K') (hk' : K' ≤ 1000000) : Wf K' D :=
  ⟨h.sn, h.ss, h.nn, h.ns, h.room, fun f hf => let ⟨h1, h2⟩ := h.fl f hf; ⟨by omega, h2⟩, by have := h.nf; omega, by have := h.nw; omega, by have := h.na; omega, by have := h.left; omega, by have := h.ops; omega, hk', h.nl, h.sl, by have := h.nsf; omega⟩
theorem ask_same (D : DK) : D.ask.now = D.now ∧ D.ask.safe = D.safe ∧ D.ask.acts = D.acts ∧ D.ask.files = D.files ∧ D.ask.room = D.room ∧ D.ask.cut = D.cut := by
  unfold DK.ask
  split <;> exact ⟨rfl, rfl, rfl, rfl, rfl, rfl⟩
theorem Wf.ask (h : Wf K D) (hk : K + 1 ≤ 1000000) : Wf (K + 1) D.ask := by
  have h' := h.mono (Nat.le_succ K) hk
  have h1 := h.left
  have h2 := h.ops
  unfold DK.ask
  split
  · exact ⟨h'.sn, h'.ss, h'.nn, h'.ns, h'.room, h'.fl, h'.nf, h'.nw, h'.na, by show -((K + 1 : Nat) : Int) ≤ D.left ∧ D.left ≤ _; omega, by show 0 ≤ D.ops + 1 ∧ D.ops + 1 ≤ ((K + 1 : Nat) : Int); omega, h'.k, h'.nl, h'.sl, h'.nsf⟩
  · exact ⟨h'.sn, h'.ss, h'.nn, h'.ns, h'.room, h'.fl, h'.nf, h'.nw, h'.na, by show -((K + 1 : Nat) : Int) ≤ D.left - 1 ∧ D.left - 1 ≤ _; omega, by show 0 ≤ D.ops + 1 ∧ D.ops + 1 ≤ ((K + 1 : Nat) : Int); omega, h'.k, h'.nl, h'.sl, h'.nsf⟩
theorem Ch.ask (h : Ch D) : Ch D.ask := by
  obtain ⟨e1, e2, e3, e4, -⟩ := ask_same D
  exact ⟨by rw [e1, e2, e3]; exact h.now, by rw [e2, e3, e4]; exact h.val⟩
theorem Wf.name (h : Wf K D) (hk : K + 1 ≤ 1000000) (a : AC) (ha : a.kind = 1 ∨ a.kind = 2 → a.f < D.files.length) (hb : (a.kind = 1 → a.a.length ≤ 100) ∧ (a.kind = 2 → a.b.length ≤ 100)) : Wf (K + 1) (D.name a) := by
  have h' := h.mono (Nat.le_succ K) hk
  refine ⟨srt_apply h.sn a, h'.ss, fun x hx => ?_, h'.ns, h'.room, h'.fl, h'.nf, ?_, ?_, h'.left, h'.ops, h'.k, fun x hx => ?_, h'.sl, h'.nsf⟩
  · rcases mem_apply hx with hx | ⟨k1, k2⟩
    · exact h.nn x hx
    · show x.2 < D.files.length
      rw [k2]; exact ha k1
  · show (applyA D.now a).length ≤ K + 1
    have h1 := len_apply D.now a
    have h2 := h.nw
    omega
  · show (D.acts ++ [a]).length ≤ K + 1
    have := h.na
    simp
    omega
  · rcases mem_applyN hx with hx | ⟨k1, k2⟩ | ⟨k1, k2⟩
    · exact h.nl x hx
    · rw [k2]; exact hb.1 k1
    · rw [k2]; exact hb.2 k1
theorem Ch.name (h : Ch D) {a : AC} (ha : ValA D.files.length D.now a) : Ch (D.name a) := by
  refine ⟨?_, ?_⟩
  · show applyA D.now a = (D.acts ++ [a]).foldl applyA D.safe
    rw [List.foldl_append, ← h.now]
    rfl
  · exact h.val.snoc (by rw [← h.now]; exact ha)
theorem setF_len (D : DK) (i : Nat) (f : Fl) : (D.setF i f).files.length = D.files.length := by simp [DK.setF]
theorem Wf.setF (h : Wf K D) (i : Nat) {f : Fl} (hf : f.b.length ≤ K ∧ 0 ≤ f.safe ∧ f.safe ≤ f.b.length) : Wf K (D.setF i f) := by
  refine ⟨h.sn, h.ss, fun x hx => by rw [setF_len]; exact h.nn x hx, fun x hx => by rw [setF_len]; exact h.ns x hx, h.room, fun g hg => ?_, by rw [setF_len]; exact h.nf, h.nw, h.na, h.left, h.ops, h.k, h.nl, h.sl, h.nsf⟩
  rcases List.mem_or_eq_of_mem_set (show g ∈ D.files.set i f from hg) with hg | rfl
  · exact h.fl g hg
  · exact hf
theorem Ch.setF (h : Ch D) (i : Nat) (f : Fl) : Ch (D.setF i f) := ⟨h.now, by rw [setF_len]; exact h.val⟩
theorem Wf.newF (h : Wf K D) (hk : K + 1 ≤ 1000000) : Wf (K + 1) { D with files := D.files ++ [fl0] } := by
  have h' := h.mono (Nat.le_succ K) hk
  have hl : (D.files ++ [fl0]).length = D.files.length + 1 := by simp
  refine ⟨h'.sn, h'.ss, fun x hx => ?_, fun x hx => ?_, h'.room, fun g hg => ?_, ?_, h'.nw, h'.na, h'.left, h'.ops, h'.k, h'.nl, h'.sl, h'.nsf⟩
  · show x.2 < (D.files ++ [fl0]).length
    have := h.nn x hx; omega
  · show x.2 < (D.files ++ [fl0]).length
    have := h.ns x hx; omega
  · rcases List.mem_append.1 hg with hg | hg
    · exact h'.fl g hg
    · rw [List.mem_singleton.1 hg]
      exact ⟨Nat.zero_le _, by decide, by decide⟩
  · show (D.files ++ [fl0]).length ≤ K + 1
    have := h.nf; omega
theorem Ch.newF (h : Ch D) : Ch { D with files := D.files ++ [fl0] } := ⟨h.now, h.val.mono (by simp)⟩
theorem Wf.at_ (h : Wf K D) {i : Nat} (hi : i < D.files.length) : (D.files.getD i fl0).b.length ≤ K ∧ 0 ≤ (D.files.getD i fl0).safe ∧ (D.files.getD i fl0).safe ≤ (D.files.getD i fl0).b.length := h.fl _ (getD_memD fl0 hi)
theorem Wf.look (h : Wf K D) {n : By} {i : Nat} (hl : DS.look D.now n = some i) : i < D.files.length := h.nn _ ((look_mem h.sn).1 hl)
theorem err_all {D : DK} {ns : List By} (h : D.err ns = 0) : D.ask.off = false ∧ ns.all okN = true := by
  unfold DK.err at h
  split at h
  · cases h
  · rename_i ho
    split at h
    · rename_i ha
      exact ⟨by simpa using ho, ha⟩
    · cases h
theorem Wf.append (h : Wf K D) (n : By) (b : List Int) (hk : K + b.length + 3 ≤ 1000000) : Wf (K + b.length + 3) (D.append n b).1 := by
  have h1 := h.ask (by omega : K + 1 ≤ 1000000)
  obtain ⟨e1, e2, e3, e4, e5, e6⟩ := ask_same D
  unfold DK.append
  split
  · exact h1.mono (by omega) hk
  · rename_i he
    have hok : okN n = true := by
      have := (err_all (by simpa using he : D.err [n] = 0)).2
      simpa using this
    split
    · exact h1.mono (by omega) hk
    · split
      · rename_i i hl
        have hi := h.look hl
        have ha := h.at_ hi
        refine (h1.mono (by omega) hk).setF i ⟨?_, ha.2.1, ?_⟩
        · show ((D.files.getD i fl0).b ++ b).length ≤ _
          rw [List.length_append]
          omega
        · show (D.files.getD i fl0).safe ≤ (((D.files.getD i fl0).b ++ b).length : Int)
          rw [List.length_append]
          omega
      · have h2 := (h1.newF (by omega : K + 1 + 1 ≤ 1000000))
        rw [e4] at h2
        have h3 := h2.name (by omega : K + 1 + 1 + 1 ≤ 1000000) ⟨1, n, [], D.files.length⟩ (fun _ => by show D.files.length < (D.files ++ [fl0]).length; simp) ⟨fun _ => okN_len hok, fun e => (by cases e)⟩
        exact (h3.mono (by omega) hk).setF D.files.length ⟨by show b.length ≤ _; omega, Int.le_refl 0, by show (0 : Int) ≤ _; omega⟩
theorem Ch.append (h : Ch D) (n : By) (b : List Int) : Ch (D.append n b).1 := by
  have h1 := h.ask
  obtain ⟨e1, e2, e3, e4, e5, e6⟩ := ask_same D
  unfold DK.append
  split
  · exact h1
  · rename_i he
    have hok : okN n = true := by
      have := (err_all (by simpa using he : D.err [n] = 0)).2
      simpa using this
    split
    · exact h1
    · split
      · exact h1.setF _ _
      · have h2 := h1.newF
        rw [e4] at h2
        exact (h2.name (.inl ⟨rfl, by show D.files.length < (D.files ++ [fl0]).length; simp, hok⟩)).setF _ _
theorem Wf.truncate (h : Wf K D) (n : By) (k : Int) (hk : K + 1 ≤ 1000000) : Wf (K + 1) (D.truncate n k).1 := by
  have h1 := h.ask hk
  unfold DK.truncate
  split
  · exact h1
  · split
    · exact h1
    · rename_i i hl
      have ha := h.at_ (h.look hl)
      split
      · exact h1
      · refine h1.setF i ⟨?_, ?_, ?_⟩
        · show ((D.files.getD i fl0).b.take k.toNat).length ≤ _
          rw [List.length_take]
          omega
        · show 0 ≤ k
          omega
        · show k ≤ (((D.files.getD i fl0).b.take k.toNat).length : Int)
          rw [List.length_take]
          omega
theorem Ch.truncate (h : Ch D) (n : By) (k : Int) : Ch (D.truncate n k).1 := by
  have h1 := h.ask
  unfold DK.truncate
  split
  · exact h1
  · split
    · exact h1
    · split
      · exact h1
      · exact h1.setF _ _
theorem Wf.sync (h : Wf K D) (n : By) (hk : K + 1 ≤ 1000000) : Wf (K + 1) (D.sync n).1 := by
  have h1 := h.ask hk
  unfold DK.sync
  split
  · exact h1
  · split
    · exact h1
    · rename_i i hl
      have ha := h.at_ (h.look hl)
      exact h1.setF i ⟨by show (D.files.getD i fl0).b.length ≤ _; omega, Int.natCast_nonneg _, Int.le_refl _⟩
theorem Ch.sync (h : Ch D) (n : By) : Ch (D.sync n).1 := by
  have h1 := h.ask
  unfold DK.sync
  split
  · exact h1
  · split
    · exact h1
    · exact h1.setF _ _
theorem Wf.rename (h : Wf K D) (n m : By) (hk : K + 2 ≤ 1000000) : Wf (K + 2) (D.rename n m).1 := by
  have h1 := h.ask (by omega : K + 1 ≤ 1000000)
  obtain ⟨e1, e2, e3, e4, e5, e6⟩ := ask_same D
  unfold DK.rename
  split
  · exact h1.mono (by omega) hk
  · rename_i he
    have hok := (err_all (by simpa using he : D.err [n, m] = 0)).2
    simp only [List.all_cons, List.all_nil, Bool.and_true, Bool.and_eq_true] at hok
    split
    · exact h1.mono (by omega) hk
    · rename_i i hl
      split
      · exact h1.mono (by omega) hk
      · exact h1.name hk ⟨2, n, m, i⟩ (fun _ => by rw [e4]; exact h.look hl) ⟨fun e => (by cases e), fun _ => okN_len hok.2⟩
theorem Ch.rename (h : Ch D) (n m : By) : Ch (D.rename n m).1 := by
  have h1 := h.ask
  obtain ⟨e1, e2, e3, e4, e5, e6⟩ := ask_same D
  unfold DK.rename
  split
  · exact h1
  · rename_i he
    have hok := (err_all (by simpa using he : D.err [n, m] = 0)).2
    simp only [List.all_cons, List.all_nil, Bool.and_true, Bool.and_eq_true] at hok
    split
    · exact h1
    · rename_i i hl
      split
      · exact h1
      · exact h1.name (.inr (.inl ⟨rfl, by rw [e1]; exact hl, hok.1, hok.2⟩))
theorem Wf.remove (h : Wf K D) (n : By) (hk : K + 2 ≤ 1000000) : Wf (K + 2) (D.remove n).1 := by
  have h1 := h.ask (by omega : K + 1 ≤ 1000000)
  unfold DK.remove
  split
  · exact h1.mono (by omega) hk
  · split
    · exact h1.mono (by omega) hk
    · exact h1.name hk ⟨3, n, [], 0⟩ (fun hh => by rcases hh with hh | hh <;> cases hh) ⟨fun e => (by cases e), fun e => (by cases e)⟩
theorem Ch.remove (h : Ch D) (n : By) : Ch (D.remove n).1 := by
  have h1 := h.ask
  unfold DK.remove
  split
  · exact h1
  · rename_i he
    have hok := (err_all (by simpa using he : D.err [n] = 0)).2
    simp only [List.all_cons, List.all_nil, Bool.and_true] at hok
    split
    · exact h1
    · exact h1.name (.inr (.inr ⟨rfl, hok⟩))
theorem Wf.syncDir (h : Wf K D) (hk : K + 1 ≤ 1000000) : Wf (K + 1) D.syncDir.1 := by
  have h1 := h.ask hk
  obtain ⟨e1, e2, e3, e4, e5, e6⟩ := ask_same D
  unfold DK.syncDir
  split
  · exact h1
  · exact ⟨h1.sn, h.sn, h1.nn, fun x hx => by show x.2 < D.ask.files.length; rw [e4]; exact h.nn x hx, h1.room, h1.fl, h1.nf, h1.nw, Nat.zero_le _, h1.left, h1.ops, h1.k, h1.nl, h.nl, by show D.now.length ≤ K + 1; have := h.nw; omega⟩
theorem Ch.syncDir (h : Ch D) : Ch D.syncDir.1 := by
  have h1 := h.ask
  obtain ⟨e1, e2, e3, e4, e5, e6⟩ := ask_same D
  unfold DK.syncDir
  split
  · exact h1
  · exact ⟨e1, trivial⟩
theorem Wf.cutAt (h : Wf K D) {n : Int} (hn : n ≤ 9223372036854775807) : Wf K (D.cutAt n) := ⟨h.sn, h.ss, h.nn, h.ns, h.room, h.fl, h.nf, h.nw, h.na, by show -(K : Int) ≤ max n 0 ∧ max n 0 ≤ _; omega, h.ops, h.k, h.nl, h.sl, h.nsf⟩
theorem Ch.cutAt (h : Ch D) (n : Int) : Ch (D.cutAt n) := ⟨h.now, h.val⟩
end
end Go.Proofs.Ythfoanmokcepcaa.DS
end
section
namespace Go.Proofs.Ythfoanmokcepcaa.DS
open Go.Proofs.Ythfoanmokcepcaa.H Go.Proofs.Ythfoanmokcepcaa.AS Go.Proofs.Ythfoanmokcepcaa.X0
set_option linter.unusedVariables false
set_option linter.unusedSimpArgs false
set_option maxRecDepth 100000
theorem hvNil (p o : Nat) : vNil (.ptr p o) = some (.ptr p o) := rfl
theorem hvFld (k p : Nat) : vField k (.ptr p 0) = some (.ptr p k) := by simp [vField]
theorem boxI {s : HS} {v : HV} {cs : List HV} {K : HV → HS → Prop} (hc : hcells v = some cs) (h : ∀ id, s id = none → K (.ptr id 0) (s.set id (.cells cs))) : hBox s v K := by
  unfold hBox
  rw [hc]
  exact h
theorem store1 {s : HS} {g k n : Nat} {cs : List HV} {v : HV} {K : HS → Prop} (hg : s g = some (.cells cs)) (hk : k < cs.length) (hv : hcells v = some [v]) (ho : hone v = true) (hn : n = 1) (hK : K (s.set g (.cells (cs.set k v)))) : hStore s (.ptr g k) v n K := by
  subst hn
  simp only [hStore, hv, hg]
  refine ⟨rfl, hk, fun x hx => by rw [List.mem_singleton.1 hx]; exact ho, ?_⟩
  have e : putCells cs k [v] = cs.set k v := by
    unfold putCells
    rw [List.set_eq_take_append_cons_drop, if_pos hk]
    simp
  rw [e]
  exact hK
theorem eqp27 (g o : Nat) : vCmp (Try.prog.underlying 27) .eql (.ptr g o) (.lit (.pointer none)) = some (.lit (.bool false)) := rfl
theorem nep27 (g o : Nat) : vCmp (Try.prog.underlying 27) .neq (.ptr g o) (.lit (.pointer none)) = some (.lit (.bool true)) := rfl
theorem eqp77 (g o : Nat) : vCmp (Try.prog.underlying 77) .eql (.ptr g o) (.lit (.pointer none)) = some (.lit (.bool false)) := rfl
theorem eqn77 : vCmp (Try.prog.underlying 77) .eql (.lit (.pointer none)) (.lit (.pointer none)) = some (.lit (.bool true)) := rfl
theorem eqm72 (g : Nat) : vCmp (Try.prog.underlying 72) .eql (.map g) (.lit (.map none)) = some (.lit (.bool false)) := rfl
theorem eql28 (a b : Int) : vCmp (Try.prog.underlying 28) .eql (.lit (.int .i64 a)) (.lit (.int .i64 b)) = some (.lit (.bool (decide (a = b)))) := by
  simp only [vCmp, vBin, if_true, Option.some.injEq, HV.lit.injEq, Value.bool.injEq]
  congr 1
theorem neq28 (a c : Int) : vCmp (Try.prog.underlying 28) .neq (.lit (.int .i64 a)) (.lit (.int .i64 c)) = some (.lit (.bool (!decide (a = c)))) := by
  simp only [vCmp, vBin, if_true, Option.some.injEq, HV.lit.injEq, Value.bool.injEq, bne]
  congr 1
theorem eql3 (a b : Int) : vCmp (Try.prog.underlying 3) .eql (.lit (.int .i64 a)) (.lit (.int .i64 b)) = some (.lit (.bool (decide (a = b)))) := by
  simp only [vCmp, vBin, if_true, Option.some.injEq, HV.lit.injEq, Value.bool.injEq]
  congr 1
theorem neq3 (a c : Int) : vCmp (Try.prog.underlying 3) .neq (.lit (.int .i64 a)) (.lit (.int .i64 c)) = some (.lit (.bool (!decide (a = c)))) := by
  simp only [vCmp, vBin, if_true, Option.some.injEq, HV.lit.injEq, Value.bool.injEq, bne]
  congr 1
theorem lenS (x : By) (u : HS) : vLenT (Try.prog.underlying 9) u (strV x) = some (.lit (.int .i64 ((x.length : Nat) : Int))) := by
  show some (HV.lit (.int .i64 ((ByteArray.mk x.toArray).size : Nat))) = _
  rw [show (ByteArray.mk x.toArray).size = x.length from by show x.toArray.size = _; simp]
section
variable {s h : HS} {d K : Nat} {D : DK} {tag : Nat → Nat} {mn ms : Nat} {A : HV} {fid : Nat → Nat} {B : Nat → HV}
theorem PD.ld (hP : PD h d D tag mn ms A fid B) (hl : HS.le h s) (k : Nat) : vLoad s (.ptr d k) 1 false = (dC D mn ms A)[k]? := load_cell k 1 (hl _ _ hP.at_)
/-- Numbers of its own are written. -/
theorem PD.put (hP : PD h d D tag mn ms A fid B) (D' : DK) (e1 : D'.now = D.now) (e2 : D'.safe = D.safe) (e3 : D'.acts = D.acts) (e4 : D'.files = D.files) : PD (h.set d (.cells (dC D' mn ms A))) d D' tag mn ms A fid B := by
  have nd : ∀ k ob, h k = some ob → (∀ cs, ob ≠ .cells cs) → k ≠ d := fun k ob hk hc e => by
    rw [e, hP.at_] at hk
    injection hk with hk
    exact hc _ hk.symm
  have n1 := nd _ _ hP.now (fun cs e => by cases e)
  have n2 := nd _ _ hP.safe (fun cs e => by cases e)
  refine ⟨set_at _ _ _, by rw [set_ne _ _ n1, e1]; exact hP.now, by rw [set_ne _ _ n2, e2]; exact hP.safe, hP.ne, ?_, hP.td, hP.ta, fun i hi => ?_, by rw [e4]; exact hP.ti⟩
  · rw [e3]
    exact hP.acts.keep fun q ob hq hob => by rw [set_ne _ _ (hP.ta q hq).2]; exact hob
  · rw [e4] at hi ⊢
    obtain ⟨h1, h2⟩ := hP.file i hi
    obtain ⟨t1, t2⟩ := hP.ti i hi
    have t0 := hP.td.1
    refine ⟨?_, h2.keep fun q ob hq hob => ?_⟩
    · rw [set_ne _ _ (fun e => by rw [e, t0] at t1; omega)]
      exact h1
    · rw [set_ne _ _ (fun e => by have := (t2 q hq).1; rw [e, t0] at this; omega)]
      exact hob
/-- A row of names, that is not the disk's own. -/
def NRow (h s : HS) (a : HV) (ns : List By) : Prop := (a = nilV ∧ ns = []) ∨ ∃ X f, a = .view X 0 1 ns.length f ∧ s X = some (.cells (rows strC ns)) ∧ h X = none
theorem strC_len (k : By) : (strC k).length = 1 := rfl
theorem may56 (n : By) (s : HS) : HC Try.prog 56 [strV n] s (fun v t => t = s ∧ v = .lit (.bool (okN n))) := by
  refine HC56 ?_
  unfold c56 okN
  simp only [lenS, bindO, geq_n, leq_n]
  by_cases h1 : (1 : Int) ≤ (n.length : Int)
  · simp only [h1, decide_true, hcond]
    refine ⟨trivial, ?_⟩
    congr 3
    simp only [eq_iff_iff]
    omega
  · simp only [h1, decide_false, hcond]
    refine ⟨trivial, ?_⟩
    rw [decide_eq_false (by omega)]
theorem asked34 (hP : PD h d D tag mn ms A fid B) (hl : HS.le h s) (hw : Wf K D) {a1 : HV} {ns : List By} (ha : NRow h s a1 ns) (hns : ns.length ≤ 1000) :
    HC Try.prog 34 [.ptr d 0, a1] s (fun v t => v = .lit (.int .i64 (D.err ns)) ∧ t = s.set d (.cells (dC D.ask mn ms A))) := by
  refine HC34 ?_
  unfold c34
  have hd := hl _ _ hP.at_
  have b1 := hw.ops
  have b2 := hw.left
  have b3 := hw.k
  refine Join.of (fun xs t => t = s ∧ xs = [.lit (.bool false)]) ?_ ?_
  rotate_left
  · intro K1 hK1
    simp only [eqp27, bindO, hcond, hvNil, hvFld, hP.ld hl, dC, List.getElem?_cons_succ, List.getElem?_cons_zero, eqm72]
    exact hK1 _ _ ⟨rfl, rfl⟩
  rintro _ t ⟨rfl, rfl⟩
  simp only [List.headD_cons, hcond, bindO, hvNil, hvFld, hP.ld hl, dC, List.getElem?_cons_succ, List.getElem?_cons_zero]
  rw [add_n (by omega) (by omega)]
  simp only
  refine store1 hd (by simp [dC]) (hc_int _ _) (ho_int _ _) rfl ?_
  rw [show (dC D mn ms A).set 7 (.lit (.int .i64 (D.ops + 1))) = dC { D with ops := D.ops + 1 } mn ms A from rfl]
  have hasko : D.ask.off = decide (D.off = true ∨ (D.cut = true ∧ D.left = 0)) := by
    unfold DK.ask
    split
    · rename_i hc; rw [decide_eq_true hc]
    · rename_i hc
      rw [decide_eq_false hc]
      cases ho : D.off with
      | false => rfl
      | true => exact absurd (.inl ho) hc
  have hNX : ∀ X f, a1 = .view X 0 1 ns.length f → h X = none → X ≠ d := fun X f _ hX e => by rw [e, hP.at_] at hX; cases hX
  refine Join.of (fun _ u => u = t.set d (.cells (dC { D with ops := D.ops + 1, off := D.ask.off } mn ms A))) ?_ ?_
  · rintro _ u hu
    have hud : u d = some (.cells (dC { D with ops := D.ops + 1, off := D.ask.off } mn ms A)) := by rw [hu]; exact set_at _ _ _
    have ld := fun k => load_cell k 1 hud
    simp only [ld, dC, List.getElem?_cons_succ, List.getElem?_cons_zero, hvNil, hvFld]
    cases ho : D.ask.off with
    | true =>
      rw [ho] at hu
      refine ⟨?_, ?_⟩
      · unfold DK.err; rw [if_pos ho]
      · rw [ho] at hasko
        have hc := of_decide_eq_true hasko.symm
        rw [hu]
        unfold DK.ask
        rw [if_pos hc]
        rfl
    | false =>
      have hc := of_decide_eq_false (hasko.symm.trans ho)
      have hask : D.ask = { D with ops := D.ops + 1, left := D.left - 1 } := by unfold DK.ask; rw [if_neg hc]
      have hoff : D.off = false := by
        cases h' : D.off with
        | false => rfl
        | true => exact absurd (.inl h') hc
      rw [sub_n (by omega) (by omega)]
      simp only
      refine store1 hud (by simp [dC]) (hc_int _ _) (ho_int _ _) rfl ?_
      rw [hu, set_set]
      rw [show (dC { D with ops := D.ops + 1, off := D.ask.off } mn ms A).set 6 (.lit (.int .i64 (D.left - 1))) = dC D.ask mn ms A from by rw [ho, hask]; unfold dC; rw [hoff]; rfl]
      have herr : D.err ns = if ns.all okN = true then 0 else 1 := by unfold DK.err; rw [if_neg (by rw [ho]; exact Bool.false_ne_true)]
      rw [herr]
      have hlen : vLenT (Try.prog.underlying 41) (t.set d (.cells (dC D.ask mn ms A))) a1 = some (.lit (.int .i64 ((ns.length : Nat) : Int))) := by
        rcases ha with ⟨rfl, rfl⟩ | ⟨X, f, rfl, -⟩ <;> rfl
      rw [hlen]
      simp only
      refine HLoop.ghost (σ := Nat) (fun i => [.lit (.int .i64 (i : Int))]) (fun i u => i ≤ ns.length ∧ u = t.set d (.cells (dC D.ask mn ms A)) ∧ (ns.take i).all okN = true) (fun i => ns.length - i) 0 rfl ⟨Nat.zero_le _, rfl, by simp⟩ ?_
      rintro i u K ⟨h1, rfl, h3⟩ hK
      simp only [List.headD_cons, lss_i]
      by_cases hlt : i < ns.length
      · rcases ha with ⟨rfl, rfl⟩ | ⟨X, f, rfl, hX, hhX⟩
        · exact absurd hlt (Nat.not_lt_zero _)
        have hne := hNX X f rfl hhX
        have hX' : (t.set d (.cells (dC D.ask mn ms A))) X = some (.cells (rows strC ns ++ [])) := by rw [set_ne _ _ hne, List.append_nil]; exact hX
        have x1 : vIdx 1 (.view X 0 1 ns.length f) (.lit (.int .i64 (i : Int))) = some (.ptr X (0 + i * 1)) := idx_view .i64 hlt
        have x2 := load_rows1 strC_len [] hX' hlt (j := 0) (n := 1) (by omega)
        rw [Nat.mul_one, Nat.add_zero] at x2
        rw [Nat.mul_one, Nat.zero_add] at x1
        simp only [hlt, decide_true, x1, x2, strC, List.getElem?_cons_zero]
        refine (may56 _ _).mono ?_
        rintro _ w ⟨rfl, rfl⟩
        have htk := take_succ' [] ns hlt
        simp only [vUn]
        cases hm : okN (ns.getD i []) with
        | true =>
          simp only [Bool.not_true, inc_i hlt (by omega)]
          exact hK (i + 1) _ _ rfl ⟨hlt, rfl, by rw [htk, List.all_append, h3, List.all_cons, hm]; rfl⟩ (by omega)
        | false =>
          simp only [Bool.not_false]
          refine ⟨?_, by unfold dC; rw [ho]⟩
          rw [if_neg]
          intro hall
          have := List.all_eq_true.1 hall _ (getD_memD [] hlt)
          rw [hm] at this
          cases this
      · obtain rfl : i = ns.length := by omega
        rw [List.take_length] at h3
        simp only [hlt, decide_false, h3, if_true]
        exact ⟨trivial, by unfold dC; rw [ho]⟩
  · intro K16 hK16
    have hud : (t.set d (.cells (dC { D with ops := D.ops + 1 } mn ms A))) d = some (.cells (dC { D with ops := D.ops + 1 } mn ms A)) := set_at _ _ _
    have hset : ∀ o, (t.set d (.cells (dC { D with ops := D.ops + 1 } mn ms A))).set d o = t.set d o := fun o => set_set _ _ _ _
    generalize t.set d (.cells (dC { D with ops := D.ops + 1 } mn ms A)) = u at hud hset ⊢
    have ld := fun k => load_cell k 1 hud
    simp only [ld, dC, List.getElem?_cons_succ, List.getElem?_cons_zero, hvNil, hvFld]
    cases ho : D.off with
    | true =>
      refine store1 hud (by simp [dC]) (hc_bool _) (ho_bool _) rfl ?_
      rw [hset]
      refine hK16 _ _ ?_
      rw [hasko, decide_eq_true (.inl ho)]
      rfl
    | false =>
      cases hcu : D.cut with
      | true =>
        simp only [eql3]
        refine store1 hud (by simp [dC]) (hc_bool _) (ho_bool _) rfl ?_
        rw [hset]
        refine hK16 _ _ ?_
        rw [hasko]
        have : decide (D.off = true ∨ (D.cut = true ∧ D.left = 0)) = decide (D.left = 0) := by simp [ho, hcu]
        rw [this]
        unfold dC
        simp only [hcu]
        rfl
      | false =>
        simp only
        refine store1 hud (by simp [dC]) (hc_bool _) (ho_bool _) rfl ?_
        rw [hset]
        refine hK16 _ _ ?_
        rw [hasko]
        have : decide (D.off = true ∨ (D.cut = true ∧ D.left = 0)) = false := by simp [ho, hcu]
        rw [this]
        unfold dC
        simp only [hcu]
        rfl
end
end Go.Proofs.Ythfoanmokcepcaa.DS
end
section
namespace Go.Proofs.Ythfoanmokcepcaa.DS
open Go.Proofs.Ythfoanmokcepcaa.H Go.Proofs.Ythfoanmokcepcaa.AS Go.Proofs.Ythfoanmokcepcaa.X0
set_option linter.unusedVariables false
set_option linter.unusedSimpArgs false
set_option maxRecDepth 100000
theorem lookN {u : HS} {mn k : Nat} {fid : Nat → Nat} {l : List Nm} (hm : u mn = some (.map .string (nmF fid l) k)) (n : By) :
    vLookup u (Try.prog.underlying 9) (.lit (.pointer none)) (.map mn) (strV n) false = some (match look l n with | some i => .ptr (fid i) 0 | none => nilP) := by
  rw [Try.underlying9]
  simp only [vLookup, strV, keyIs, if_true, hm, sameKey, Bool.false_eq_true, if_false]
  have := nmF_at (fid := fid) (l := l) n
  unfold encS at this
  rw [this]
  cases look l n <;> rfl
theorem err_comm (D : DK) (n m : By) : D.err [m, n] = D.err [n, m] := by
  unfold DK.err
  simp only [List.all_cons, List.all_nil, Bool.and_true]
  rw [Bool.and_comm]
/-- Something is put behind a row of its own. -/
theorem ORow.app {s h : HS} {sz by_ n k : Nat} {A x : HV} {cs vs : List HV} {K : HV → HS → Prop} (hA : ORow h sz A n cs) (hle : HS.le h s) (hx : lcells s sz x = some vs) (hk : H.llen x = k) (h0 : k ≠ 0) (hv : vs.length = k * sz) (hr : room (n + k) by_) (hr' : room k by_)
    (hK : ∀ A' s' h', ORow h' sz A' (n + k) (cs ++ vs) → Turn s h s' h' → (∀ j ob, accId A ≠ some j → h j = some ob → h' j = some ob) → (∀ j, accId A' = some j → s j = none) → K A' s') : hAppend s sz by_ A x K := by
  unfold hAppend
  rw [hx]
  rcases hA with ⟨rfl, rfl, rfl⟩ | ⟨q, f, rfl, hq, hc⟩
  · show (if H.llen x = 0 then K nilV s else _)
    rw [hk, if_neg h0]
    refine ⟨hr', fun id hid => ?_⟩
    refine hK _ _ (h.set id (.cells vs)) (.inr ⟨id, _, by rw [Nat.zero_add], by rw [List.nil_append]; exact set_at _ _ _, by rw [List.nil_append, Nat.zero_add]; exact hv⟩) (Turn.new hle hid _) (fun j ob _ hj => ?_) (fun j hj => by cases hj; exact hid)
    rw [set_ne _ _ (ne_new (hle _ _ hj) hid)]
    exact hj
  · have hq' := hle _ _ hq
    simp only [hq', hk]
    refine ⟨trivial, by rw [hc]; omega, ?_⟩
    have hcut : (cs.drop 0).take (n * sz) = cs := by rw [List.drop_zero]; exact List.take_of_length_le (by rw [hc]; exact Nat.le_refl _)
    have hlen : (cs ++ vs).length = (n + k) * sz := by rw [List.length_append, hc, hv, Nat.add_mul]
    cases f with
    | true =>
      simp only [if_true]
      rw [if_neg h0]
      refine ⟨hr, fun id hid => ?_⟩
      rw [hcut]
      refine hK _ _ (h.set id (.cells (cs ++ vs))) (.inr ⟨id, _, rfl, set_at _ _ _, hlen⟩) (Turn.new hle hid _) (fun j ob _ hj => ?_) (fun j hj => by cases hj; exact hid)
      rw [set_ne _ _ (ne_new (hle _ _ hj) hid)]
      exact hj
    | false =>
      simp only [Bool.false_eq_true, if_false, Nat.zero_add, hc, if_true]
      refine ⟨hr, fun id hid => ?_⟩
      rw [List.drop_zero]
      have hne : q ≠ id := ne_new hq' hid
      refine hK _ _ ((h.del q).set id (.cells (cs ++ vs))) (.inr ⟨id, _, rfl, set_at _ _ _, hlen⟩) ?_ (fun j ob hj1 hj => ?_) (fun j hj => by cases hj; exact hid)
      · exact (Turn.del hle hq).trans (Turn.new (Turn.del hle hq).1 (by rw [del_ne _ (Ne.symm hne)]; exact hid) _)
      · rw [set_ne _ _ (ne_new (hle _ _ hj) hid), del_ne _ (fun e => hj1 (by rw [e]; rfl))]
        exact hj
section
variable {s h : HS} {d K : Nat} {D : DK} {tag : Nat → Nat} {mn ms : Nat} {A : HV} {fid : Nat → Nat} {B : Nat → HV}
/-- A row of names that is handed in: nil, or a literal. -/
def LRow (h s : HS) (a : HV) (ns : List By) : Prop := (a = nilV ∧ ns = []) ∨ ∃ X, a = .view X 0 1 ns.length true ∧ s X = some (.cells (rows strC ns)) ∧ h X = none
theorem app_names {s1 : HS} {X : Nat} {n : By} {a2 : HV} {ns : List By} {Kk : HV → HS → Prop} (ha1 : LRow h s1 a2 ns) (hXl : lcells s1 1 (.view X 0 1 1 true) = some (strC n)) (hle1 : HS.le s s1) (hl : HS.le h s) (hns : ns.length ≤ 100)
    (hK : ∀ a3 s3, NRow h s3 a3 (ns ++ [n]) → HS.le s s3 → Kk a3 s3) : hAppend s1 1 16 a2 (.view X 0 1 1 true) Kk := by
  rcases ha1 with ⟨rfl, rfl⟩ | ⟨Y, rfl, hY, hhY⟩
  · unfold hAppend
    rw [hXl]
    show (if H.llen (.view X 0 1 1 true) = 0 then Kk nilV s1 else room (H.llen (.view X 0 1 1 true)) 16 ∧ hNew s1 (.cells (strC n)) (fun id => .view id 0 1 (H.llen (.view X 0 1 1 true)) false) Kk)
    rw [if_neg (show ¬ (H.llen (.view X 0 1 1 true) = 0) from (by show ¬ (1 = 0); omega))]
    refine ⟨⟨by show 1 * 16 ≤ _; omega, by show 1 ≤ _; omega⟩, fun id hid => ?_⟩
    exact hK _ _ (.inr ⟨id, _, rfl, by rw [set_at]; rfl, none_of_le hl (none_of_le hle1 hid)⟩) (HS.le.trans hle1 (le_set_new _ (le_refl' s1) hid))
  · unfold hAppend
    rw [hXl]
    have hyl : (rows strC ns).length = ns.length * 1 := rows_len strC_len ns
    simp only [hY, if_true]
    refine ⟨trivial, by rw [hyl]; omega, ?_⟩
    rw [if_neg (show ¬ (H.llen (.view X 0 1 1 true) = 0) from (by show ¬ (1 = 0); omega))]
    refine ⟨⟨by show (ns.length + 1) * 16 ≤ _; omega, by show ns.length + 1 ≤ _; omega⟩, fun id hid => ?_⟩
    refine hK _ _ (.inr ⟨id, _, by rw [List.length_append]; rfl, ?_, none_of_le hl (none_of_le hle1 hid)⟩) (HS.le.trans hle1 (le_set_new _ (le_refl' s1) hid))
    rw [set_at, List.drop_zero, List.take_of_length_le (by rw [hyl]; exact Nat.le_refl _), rows_app, rows_one]
def hasV (D : DK) (fid : Nat → Nat) (n : By) (ns : List By) : HV := if D.err ns ≠ 0 then .tup [nilP, .lit (.int .i64 (D.err ns))] else match look D.now n with
  | none => .tup [nilP, .lit (.int .i64 5)]
  | some i => .tup [.ptr (fid i) 0, .lit (.int .i64 0)]
theorem has36 (hP : PD h d D tag mn ms A fid B) (hl : HS.le h s) (hw : Wf K D) (n : By) {a2 : HV} {ns : List By} (ha : LRow h s a2 ns) (hns : ns.length ≤ 100) :
    HC Try.prog 36 [.ptr d 0, strV n, a2] s (fun v t => v = hasV D fid n (ns ++ [n]) ∧ Turn s h t (h.set d (.cells (dC D.ask mn ms A)))) := by
  refine HC36 ?_
  unfold c36
  refine hBS_lit (vs := strC n) rfl rfl rfl fun X hX => ?_
  have hle1 := le_set_new (.cells (strC n)) (le_refl' s) hX
  have hXl : lcells (s.set X (.cells (strC n))) 1 (.view X 0 1 1 true) = some (strC n) := lit_cells (set_at _ _ _) rfl
  have ha1 : LRow h (s.set X (.cells (strC n))) a2 ns := by
    rcases ha with h1 | ⟨Y, h1, h2, h3⟩
    · exact .inl h1
    · exact .inr ⟨Y, h1, hle1 _ _ h2, h3⟩
  generalize s.set X (.cells (strC n)) = s1 at *
  refine app_names ha1 hXl hle1 hl hns fun a3 s3 h3 hle => ?_
  refine (asked34 hP (HS.le.trans hl hle) hw h3 (by rw [List.length_append]; simp; omega)).mono ?_
  rintro _ t ⟨rfl, ht⟩
  have hT : Turn s h t (h.set d (.cells (dC D.ask mn ms A))) := by
    rw [ht]
    exact (Turn.junk hl hle).trans (Turn.set (HS.le.trans hl hle) hP.at_ _)
  have hP' := hP.put D.ask (ask_same D).1 (ask_same D).2.1 (ask_same D).2.2.1 (ask_same D).2.2.2.1
  have hm := hT.1 _ _ hP'.now
  rw [(ask_same D).1] at hm
  have ld := fun k => hP'.ld hT.1 k
  unfold hasV
  by_cases he : D.err (ns ++ [n]) = 0
  · simp only [bindO, neq28, hvNil, hvFld, ld, dC, List.getElem?_cons_succ, List.getElem?_cons_zero, lookN hm, he, decide_true, Bool.not_true, hcond, ne_eq, not_true, if_false]
    cases hk : look D.now n with
    | none =>
      simp only [nilP, eqn77]
      exact ⟨trivial, hT⟩
    | some i =>
      simp only [eqp77]
      exact ⟨trivial, hT⟩
  · simp only [bindO, neq28, he, decide_false, Bool.not_false, hcond, ne_eq, not_false_iff, if_true, nilP]
    exact ⟨trivial, hT⟩
/-- A name's act, done to a map. -/
theorem does39 {m : Nat} {l : List Nm} (hm : s m = some (.map .string (nmF fid l) l.length)) (hs : Srt l) {nf : Nat} {a : AC} (ha : ValA nf l a) :
    HC Try.prog 39 [.map m, .agg (acP fid a)] s (fun v t => v = .tup [] ∧ ∃ u, HS.le s u ∧ t = u.set m (.map .string (nmF fid (applyA l a)) (applyA l a).length)) := by
  refine HC39 ?_
  unfold c39
  refine boxI (hc_agg _) fun X hX => ?_
  have hle := le_set_new (.cells (acP fid a)) (le_refl' s) hX
  have lX : ∀ k, vLoad (s.set X (.cells (acP fid a))) (.ptr X k) 1 false = (acP fid a)[k]? := fun k => load_cell k 1 (set_at _ _ _)
  have hmX : m ≠ X := ne_new hm hX
  have lX2 : ∀ o k, vLoad ((s.set X (.cells (acP fid a))).set m o) (.ptr X k) 1 false = (acP fid a)[k]? := fun o k => load_cell k 1 (by rw [set_ne _ _ (Ne.symm hmX)]; exact set_at _ _ _)
  have hm1 := hle _ _ hm
  generalize s.set X (.cells (acP fid a)) = u at *
  have okne : ∀ n : By, okN n = true → n ≠ [] := fun n hn e => by subst e; cases hn
  have seq : ∀ n : By, n ≠ [] → vCmp (Try.prog.underlying 9) .neq (strV n) (.lit (.string { data := #[] })) = some (.lit (.bool true)) := fun n hn => by
    rw [show (HV.lit (.string { data := #[] })) = strV [] from rfl, neq_s, decide_eq_false hn]
    rfl
  have seq0 : vCmp (Try.prog.underlying 9) .neq (strV []) (.lit (.string { data := #[] })) = some (.lit (.bool false)) := by
    rw [show (HV.lit (.string { data := #[] })) = strV [] from rfl, neq_s]
    rfl
  have hset : ∀ (u : HS) (l : List Nm) (n : By) (i : Nat) (Kk : HS → Prop), u m = some (.map .string (nmF fid l) l.length) → Srt l → Kk (u.set m (.map .string (nmF fid (withN l n i)) (withN l n i).length)) → hMapSet u (Try.prog.underlying 9) (.map m) (strV n) (.ptr (fid i) 0) Kk := fun u l n i Kk hu hsl hK => by
    rw [Try.underlying9]
    simp only [hMapSet, strV, hu]
    refine ⟨rfl, rfl, ?_⟩
    rw [show (Value.string ⟨n.toArray⟩) = encS n from rfl, nmF_put]
    have : (if (nmF fid l (encS n)).isSome = true then l.length else l.length + 1) = (withN l n i).length := by
      rw [nmF_at, Option.isSome_map, len_with, len_without hsl]
      cases hk : look l n with
      | none => rfl
      | some j =>
        have : l ≠ [] := fun e => by rw [e] at hk; cases hk
        have := List.length_pos_iff.2 this
        simp
        omega
    rw [this]
    exact hK
  have hdel : ∀ (u : HS) (l : List Nm) (n : By) (Kk : HS → Prop), u m = some (.map .string (nmF fid l) l.length) → Srt l → Kk (u.set m (.map .string (nmF fid (without l n)) (without l n).length)) → hMapDel u (Try.prog.underlying 9) (.map m) (strV n) Kk := fun u l n Kk hu hsl hK => by
    rw [Try.underlying9]
    simp only [hMapDel, strV, hu]
    refine ⟨rfl, rfl, ?_⟩
    rw [show (Value.string ⟨n.toArray⟩) = encS n from rfl, nmF_del]
    have : (if (nmF fid l (encS n)).isSome = true then l.length - 1 else l.length) = (without l n).length := by
      rw [nmF_at, Option.isSome_map, len_without hsl]
    rw [this]
    exact hK
  rcases ha with ⟨k1, k2, k3⟩ | ⟨k1, k2, k3, k4⟩ | ⟨k1, k3⟩
  · have hac : acP fid a = [strV [], strV a.a, .ptr (fid a.f) 0] := by unfold acP; rw [if_pos k1]
    have hap : applyA l a = withN l a.a a.f := by unfold applyA; rw [if_pos k1]
    rw [hac] at lX lX2 
    rw [hap]
    simp only [hvFld, bindO, lX, List.getElem?_cons_succ, List.getElem?_cons_zero]
    refine Join.of (fun xs t => t = u ∧ xs = [.ptr (fid a.f) 0]) ?_ ?_
    · rintro _ t ⟨rfl, rfl⟩
      simp only [List.headD_cons, hvFld, bindO, lX, List.getElem?_cons_succ, List.getElem?_cons_zero, seq _ (okne _ k3), hcond]
      exact hset _ _ _ _ _ hm1 hs ⟨trivial, _, hle, rfl⟩
    · intro K5 hK5
      simp only [hvFld, bindO, lX, List.getElem?_cons_succ, List.getElem?_cons_zero, seq0, hcond]
      exact hK5 _ _ ⟨rfl, rfl⟩
  · have hn1 : ¬ a.kind = 1 := by omega
    have hac : acP fid a = [strV a.a, strV a.b, nilP] := by unfold acP; rw [if_neg hn1, if_pos k1]
    have hap : applyA l a = withN (without l a.a) a.b a.f := by unfold applyA; rw [if_neg hn1, if_pos k1]
    rw [hac] at lX lX2
    rw [hap]
    simp only [hvFld, bindO, lX, List.getElem?_cons_succ, List.getElem?_cons_zero]
    refine Join.of (fun xs t => t = u.set m (.map .string (nmF fid (without l a.a)) (without l a.a).length) ∧ xs = [.ptr (fid a.f) 0]) ?_ ?_
    · rintro _ t ⟨rfl, rfl⟩
      simp only [List.headD_cons, hvFld, bindO, lX2, List.getElem?_cons_succ, List.getElem?_cons_zero, seq _ (okne _ k4), hcond]
      refine hset _ _ _ _ _ (set_at _ _ _) (srt_without hs _) ⟨trivial, _, hle, ?_⟩
      rw [set_set]
    · intro K5 hK5
      simp only [hvFld, bindO, lX, List.getElem?_cons_succ, List.getElem?_cons_zero, seq _ (okne _ k3), hcond, lookN hm1, k2]
      exact hdel _ _ _ _ hm1 hs (hK5 _ _ ⟨rfl, rfl⟩)
  · have hn1 : ¬ a.kind = 1 := by omega
    have hn2 : ¬ a.kind = 2 := by omega
    have hac : acP fid a = [strV a.a, strV [], nilP] := by unfold acP; rw [if_neg hn1, if_neg hn2]
    have hap : applyA l a = without l a.a := by unfold applyA; rw [if_neg hn1, if_neg hn2]
    rw [hac] at lX lX2
    rw [hap]
    simp only [hvFld, bindO, lX, List.getElem?_cons_succ, List.getElem?_cons_zero]
    refine Join.of (fun xs t => t = u.set m (.map .string (nmF fid (without l a.a)) (without l a.a).length)) ?_ ?_
    · rintro _ t rfl
      simp only [hvFld, bindO, lX2, List.getElem?_cons_succ, List.getElem?_cons_zero, seq0, hcond]
      exact ⟨trivial, _, hle, rfl⟩
    · intro K5 hK5
      simp only [hvFld, bindO, lX, List.getElem?_cons_succ, List.getElem?_cons_zero, seq _ (okne _ k3), hcond, lookN hm1]
      exact hdel _ _ _ _ hm1 hs (hK5 _ _ rfl)
end
end Go.Proofs.Ythfoanmokcepcaa.DS
end
section
namespace Go.Proofs.Ythfoanmokcepcaa.DS
open Go.Proofs.Ythfoanmokcepcaa.H Go.Proofs.Ythfoanmokcepcaa.AS Go.Proofs.Ythfoanmokcepcaa.X0
set_option linter.unusedVariables false
set_option linter.unusedSimpArgs false
set_option maxRecDepth 100000
section
variable {s h : HS} {d K : Nat} {D : DK} {tag : Nat → Nat} {mn ms : Nat} {A : HV} {fid : Nat → Nat} {B : Nat → HV}
open Classical in
/-- All but the files has turned. -/
theorem PD.re (hP : PD h d D tag mn ms A fid B) {h3 : HS} {D3 : DK} {mn3 ms3 : Nat} {A3 : HV} (hat : h3 d = some (.cells (dC D3 mn3 ms3 A3))) (hnow : h3 mn3 = some (.map .string (nmF fid D3.now) D3.now.length)) (hsafe : h3 ms3 = some (.map .string (nmF fid D3.safe) D3.safe.length))
    (hne : mn3 ≠ ms3) (hacts : ORow h3 3 A3 D3.acts.length (rows (acP fid) D3.acts)) (hf : D3.files = D.files) (keep : ∀ k ob, h k = some ob → tag k ≠ 0 → h3 k = some ob)
    (n1 : h mn3 = none ∨ tag mn3 = 0) (n2 : h ms3 = none ∨ tag ms3 = 0) (n3 : ∀ q, accId A3 = some q → (h q = none ∨ tag q = 0) ∧ q ≠ d) : ∃ tag', PD h3 d D3 tag' mn3 ms3 A3 fid B := by
  refine ⟨fun k => if h k = none then 0 else tag k, hat, hnow, hsafe, hne, hacts, ⟨?_, ?_, ?_⟩, fun q hq => ?_, fun i hi => ?_, fun i hi => ?_⟩
  · show (if h d = none then 0 else tag d) = 0
    rw [hP.td.1]; split <;> rfl
  · show (if h mn3 = none then 0 else tag mn3) = 0
    split
    · rfl
    · rename_i hh; exact n1.resolve_left hh
  · show (if h ms3 = none then 0 else tag ms3) = 0
    split
    · rfl
    · rename_i hh; exact n2.resolve_left hh
  · refine ⟨?_, (n3 q hq).2⟩
    show (if h q = none then 0 else tag q) = 0
    split
    · rfl
    · rename_i hh; exact (n3 q hq).1.resolve_left hh
  · rw [hf] at hi ⊢
    obtain ⟨f1, f2⟩ := hP.file i hi
    obtain ⟨t1, t2⟩ := hP.ti i hi
    exact ⟨keep _ _ f1 (by omega), f2.keep fun q ob hq hob => keep _ _ hob (by have := (t2 q hq).1; omega)⟩
  · rw [hf] at hi
    obtain ⟨f1, f2⟩ := hP.file i hi
    obtain ⟨t1, t2⟩ := hP.ti i hi
    refine ⟨?_, fun q hq => ⟨?_, (t2 q hq).2⟩⟩
    · show (if h (fid i) = none then 0 else tag (fid i)) = i + 1
      rw [if_neg (by rw [f1]; exact Option.some_ne_none _)]
      exact t1
    · obtain ⟨ob, hob⟩ := f2.own hq
      show (if h q = none then 0 else tag q) = i + 1
      rw [if_neg (by rw [hob]; exact Option.some_ne_none _)]
      exact (t2 q hq).1
open Classical in
/-- One file has turned. -/
theorem PD.reF (hP : PD h d D tag mn ms A fid B) {h3 : HS} {i : Nat} (hi : i < D.files.length) {f : Fl} {Bi : HV} (keep : ∀ k ob, h k = some ob → tag k ≠ i + 1 → h3 k = some ob) (hfi : h3 (fid i) = some (.cells [Bi, .lit (.int .i64 f.safe)])) (hB : FRow h3 Bi f.b)
    (hBi : ∀ q, accId Bi = some q → (h q = none ∨ tag q = i + 1) ∧ q ≠ fid i) : ∃ tag' B', PD h3 d (D.setF i f) tag' mn ms A fid B' := by
  have hlen : (D.setF i f).files.length = D.files.length := setF_len D i f
  have hget : ∀ j, (D.setF i f).files.getD j fl0 = if j = i then f else D.files.getD j fl0 := fun j => by
    show (D.files.set i f).getD j fl0 = _
    rw [List.getD, List.getElem?_set]
    by_cases e : i = j
    · subst e; rw [if_pos rfl, if_pos hi, if_pos rfl]; rfl
    · rw [if_neg e, if_neg (Ne.symm e)]; rfl
  refine ⟨fun k => if h k = none then i + 1 else tag k, fun j => if j = i then Bi else B j, keep _ _ hP.at_ (by have := hP.td.1; omega), keep _ _ hP.now (by have := hP.td.2.1; omega), keep _ _ hP.safe (by have := hP.td.2.2; omega), hP.ne, hP.acts.keep fun q ob hq hob => keep _ _ hob (by have := (hP.ta q hq).1; omega), ⟨?_, ?_, ?_⟩, fun q hq => ?_, fun j hj => ?_, fun j hj => ?_⟩
  · show (if h d = none then i + 1 else tag d) = 0
    rw [if_neg (by rw [hP.at_]; exact Option.some_ne_none _)]; exact hP.td.1
  · show (if h mn = none then i + 1 else tag mn) = 0
    rw [if_neg (by rw [hP.now]; exact Option.some_ne_none _)]; exact hP.td.2.1
  · show (if h ms = none then i + 1 else tag ms) = 0
    rw [if_neg (by rw [hP.safe]; exact Option.some_ne_none _)]; exact hP.td.2.2
  · refine ⟨?_, (hP.ta q hq).2⟩
    show (if h q = none then i + 1 else tag q) = 0
    rw [if_neg (by rw [hP.acts.own hq]; exact Option.some_ne_none _)]; exact (hP.ta q hq).1
  · rw [hlen] at hj
    rw [hget]
    by_cases e : j = i
    · subst e
      simp only [if_true]
      exact ⟨hfi, hB⟩
    · simp only [e, if_false]
      obtain ⟨f1, f2⟩ := hP.file j hj
      obtain ⟨t1, t2⟩ := hP.ti j hj
      exact ⟨keep _ _ f1 (by omega), f2.keep fun q ob hq hob => keep _ _ hob (by have := (t2 q hq).1; omega)⟩
  · rw [hlen] at hj
    obtain ⟨f1, f2⟩ := hP.file j hj
    obtain ⟨t1, t2⟩ := hP.ti j hj
    refine ⟨?_, fun q hq => ?_⟩
    · show (if h (fid j) = none then i + 1 else tag (fid j)) = j + 1
      rw [if_neg (by rw [f1]; exact Option.some_ne_none _)]; exact t1
    · by_cases e : j = i
      · subst e
        simp only [if_true] at hq
        refine ⟨?_, (hBi q hq).2⟩
        show (if h q = none then j + 1 else tag q) = j + 1
        split
        · rfl
        · rename_i hh; exact (hBi q hq).1.resolve_left hh
      · simp only [e, if_false] at hq
        obtain ⟨ob, hob⟩ := f2.own hq
        refine ⟨?_, (t2 q hq).2⟩
        show (if h q = none then i + 1 else tag q) = j + 1
        rw [if_neg (by rw [hob]; exact Option.some_ne_none _)]
        exact (t2 q hq).1
theorem val_f {n : Nat} : ∀ {ac : List AC} {l : List Nm}, Val n l ac → ∀ a ∈ ac, a.kind = 1 → a.f < n
  | [], _, _, a, ha, _ => by cases ha
  | b :: ac, l, ⟨h1, h2⟩, a, ha, hk => by
    rcases List.mem_cons.1 ha with rfl | ha
    · rcases h1 with ⟨-, h, -⟩ | ⟨h, -⟩ | ⟨h, -⟩
      · exact h
      · omega
      · omega
    · exact val_f h2 a ha hk
open Classical in
/-- A new file. -/
theorem PD.newF (hP : PD h d D tag mn ms A fid B) (sn : Srt D.now) (ss : Srt D.safe) (nn : ∀ x ∈ D.now, x.2 < D.files.length) (ns : ∀ x ∈ D.safe, x.2 < D.files.length) (hv : ∀ a ∈ D.acts, a.kind = 1 → a.f < D.files.length) {F : Nat} (hF : h F = none) : ∃ tag' B' fid', fid' D.files.length = F ∧ PD (h.set F (.cells [nilV, .lit (.int .i64 0)])) d { D with files := D.files ++ [fl0] } tag' mn ms A fid' B' ∧ (∀ i, i < D.files.length → fid' i = fid i) := by
  have hlt : ∀ i, i < D.files.length → (fun i => if i = D.files.length then F else fid i) i = fid i := fun i hi => if_neg (by omega)
  have hkeep : ∀ k ob, h k = some ob → (h.set F (.cells [nilV, .lit (.int .i64 0)])) k = some ob := fun k ob hk => by rw [set_ne _ _ (fun e => by rw [e, hF] at hk; cases hk)]; exact hk
  have hget : ∀ j, j < D.files.length → (D.files ++ [fl0]).getD j fl0 = D.files.getD j fl0 := fun j hj => by
    rw [List.getD, List.getElem?_append_left hj]; rfl
  have hgetn : (D.files ++ [fl0]).getD D.files.length fl0 = fl0 := by
    rw [List.getD, List.getElem?_append_right (Nat.le_refl _), Nat.sub_self]; rfl
  have hacr : rows (acP fun i => if i = D.files.length then F else fid i) D.acts = rows (acP fid) D.acts := by
    have : ∀ l : List AC, (∀ a ∈ l, a.kind = 1 → a.f < D.files.length) → rows (acP fun i => if i = D.files.length then F else fid i) l = rows (acP fid) l := by
      intro l
      induction l with
      | nil => intro _; rfl
      | cons a l ih =>
        intro hl
        rw [rows_cons, rows_cons, ih fun b hb => hl b (List.mem_cons_of_mem _ hb)]
        congr 1
        unfold acP
        split
        · rename_i hk
          have := hl a List.mem_cons_self hk
          show [_, _, HV.ptr (if a.f = D.files.length then F else fid a.f) 0] = _
          rw [if_neg (by omega)]
        · rfl
    exact this _ hv
  refine ⟨fun k => if h k = none then D.files.length + 1 else tag k, fun j => if j = D.files.length then nilV else B j, fun i => if i = D.files.length then F else fid i, if_pos rfl, ⟨hkeep _ _ hP.at_, ?_, ?_, hP.ne, ?_, ⟨?_, ?_, ?_⟩, fun q hq => ?_, fun j hj => ?_, fun j hj => ?_⟩, hlt⟩
  · rw [hkeep _ _ hP.now]
    show _ = some (HObj.map .string (nmF _ D.now) D.now.length)
    rw [nmF_congr (fid := fid) (fid' := fun i => if i = D.files.length then F else fid i) (fun x hx => hlt _ (nn x hx)) sn]
  · rw [hkeep _ _ hP.safe]
    show _ = some (HObj.map .string (nmF _ D.safe) D.safe.length)
    rw [nmF_congr (fid := fid) (fid' := fun i => if i = D.files.length then F else fid i) (fun x hx => hlt _ (ns x hx)) ss]
  · show ORow _ 3 A D.acts.length (rows (acP _) D.acts)
    rw [hacr]
    exact hP.acts.keep fun q ob _ hob => hkeep _ _ hob
  · show (if h d = none then _ else tag d) = 0
    rw [if_neg (by rw [hP.at_]; exact Option.some_ne_none _)]; exact hP.td.1
  · show (if h mn = none then _ else tag mn) = 0
    rw [if_neg (by rw [hP.now]; exact Option.some_ne_none _)]; exact hP.td.2.1
  · show (if h ms = none then _ else tag ms) = 0
    rw [if_neg (by rw [hP.safe]; exact Option.some_ne_none _)]; exact hP.td.2.2
  · refine ⟨?_, (hP.ta q hq).2⟩
    show (if h q = none then _ else tag q) = 0
    rw [if_neg (by rw [hP.acts.own hq]; exact Option.some_ne_none _)]; exact (hP.ta q hq).1
  · have hj' : j < (D.files ++ [fl0]).length := hj
    rw [List.length_append, List.length_singleton] at hj'
    show _ = some (HObj.cells [_, .lit (.int .i64 ((D.files ++ [fl0]).getD j fl0).safe)]) ∧ FRow _ _ ((D.files ++ [fl0]).getD j fl0).b
    by_cases e : j = D.files.length
    · subst e
      rw [hgetn]
      simp only [if_true]
      exact ⟨set_at _ _ _, .inl ⟨rfl, rfl⟩⟩
    · have hj2 : j < D.files.length := by omega
      rw [hget j hj2]
      simp only [e, if_false]
      obtain ⟨f1, f2⟩ := hP.file j hj2
      exact ⟨hkeep _ _ f1, f2.keep fun q ob _ hob => hkeep _ _ hob⟩
  · have hj' : j < (D.files ++ [fl0]).length := hj
    rw [List.length_append, List.length_singleton] at hj'
    by_cases e : j = D.files.length
    · subst e
      simp only [if_true, hF]
      exact ⟨trivial, fun q hq => by cases hq⟩
    · have hj2 : j < D.files.length := by omega
      simp only [e, if_false]
      obtain ⟨f1, f2⟩ := hP.file j hj2
      obtain ⟨t1, t2⟩ := hP.ti j hj2
      refine ⟨?_, fun q hq => ?_⟩
      · rw [if_neg (by rw [f1]; exact Option.some_ne_none _)]; exact t1
      · obtain ⟨ob, hob⟩ := f2.own hq
        rw [if_neg (by rw [hob]; exact Option.some_ne_none _)]; exact t2 q hq
theorem PD.nd (hP : PD h d D tag mn ms A fid B) : mn ≠ d ∧ ms ≠ d := by
  refine ⟨fun e => ?_, fun e => ?_⟩
  · have := hP.now; rw [e, hP.at_] at this; cases this
  · have := hP.safe; rw [e, hP.at_] at this; cases this
theorem PD.nA (hP : PD h d D tag mn ms A fid B) {q : Nat} (hq : accId A = some q) : q ≠ d ∧ q ≠ mn ∧ q ≠ ms := by
  have ho := hP.acts.own hq
  refine ⟨(hP.ta q hq).2, fun e => ?_, fun e => ?_⟩
  · rw [e, hP.now] at ho; cases ho
  · rw [e, hP.safe] at ho; cases ho
theorem name35 (hP : PD h d D tag mn ms A fid B) (hl : HS.le h s) (hs : Srt D.now) {a : AC} {nf : Nat} (ha : ValA nf D.now a) (hn : D.acts.length ≤ 1000000) :
    HC Try.prog 35 [.ptr d 0, .agg (acP fid a)] s (fun v t => v = .tup [] ∧ ∃ A' tag' h', PD h' d (D.name a) tag' mn ms A' fid B ∧ Turn s h t h') := by
  refine HC35 ?_
  unfold c35
  refine boxI (hc_agg _) fun X hX => ?_
  have hle := le_set_new (.cells (acP fid a)) (le_refl' s) hX
  have hsX : (s.set X (.cells (acP fid a))) X = some (.cells (acP fid a)) := set_at _ _ _
  generalize s.set X (.cells (acP fid a)) = s1 at *
  have hl1 := HS.le.trans hl hle
  have ld1 := fun k => hP.ld hl1 k
  simp only [hvNil, hvFld, bindO, ld1, dC, List.getElem?_cons_succ, List.getElem?_cons_zero, load_all (acP_len fid a) hsX]
  refine (does39 (hl1 _ _ hP.now) hs ha).mono ?_
  rintro _ t ⟨rfl, u, hu, rfl⟩
  have hT1 : Turn s h (u.set mn (.map .string (nmF fid (applyA D.now a)) (applyA D.now a).length)) (h.set mn (.map .string (nmF fid (applyA D.now a)) (applyA D.now a).length)) := (Turn.junk hl (HS.le.trans hle hu)).trans (Turn.set (HS.le.trans hl (HS.le.trans hle hu)) hP.now _)
  have hXmn : X ≠ mn := fun e => by have := hl1 _ _ hP.now; rw [← e, hsX] at this; cases this
  have htX : (u.set mn (.map .string (nmF fid (applyA D.now a)) (applyA D.now a).length)) X = some (.cells (acP fid a)) := by rw [set_ne _ _ hXmn]; exact hu _ _ hsX
  obtain ⟨g1, g2⟩ := hP.nd
  have h1d : (h.set mn (.map .string (nmF fid (applyA D.now a)) (applyA D.now a).length)) d = some (.cells (dC D mn ms A)) := by rw [set_ne _ _ (Ne.symm g1)]; exact hP.at_
  have h1m : (h.set mn (.map .string (nmF fid (applyA D.now a)) (applyA D.now a).length)) mn = some (.map .string (nmF fid (applyA D.now a)) (applyA D.now a).length) := set_at _ _ _
  have h1k : ∀ k, k ≠ mn → (h.set mn (.map .string (nmF fid (applyA D.now a)) (applyA D.now a).length)) k = h k := fun k hk => set_ne _ _ hk
  generalize u.set mn _ = t1 at hT1 htX ⊢
  generalize h.set mn _ = h1 at hT1 h1d h1m h1k
  have ld2 : ∀ k, vLoad t1 (.ptr d k) 1 false = (dC D mn ms A)[k]? := fun k => load_cell k 1 (hT1.1 _ _ h1d)
  simp only [hvNil, hvFld, ld2, dC, List.getElem?_cons_succ, List.getElem?_cons_zero, load_all (acP_len fid a) htX]
  refine hBS_lit (vs := acP fid a) rfl (acP_len fid a) rfl fun Z hZ => ?_
  have hle3 := le_set_new (.cells (acP fid a)) (le_refl' t1) hZ
  have hZl : lcells (t1.set Z (.cells (acP fid a))) 3 (.view Z 0 3 1 true) = some (acP fid a) := lit_cells (set_at _ _ _) (acP_len fid a)
  have hT2 : Turn s h (t1.set Z (.cells (acP fid a))) h1 := hT1.trans (Turn.junk hT1.1 hle3)
  have ld3 : ∀ k, vLoad (t1.set Z (.cells (acP fid a))) (.ptr d k) 1 false = (dC D mn ms A)[k]? := fun k => load_cell k 1 (hT2.1 _ _ h1d)
  refine ⟨by rw [ld3]; rfl, ?_⟩
  generalize t1.set Z (.cells (acP fid a)) = t2 at *
  have hA1 : ORow h1 3 A D.acts.length (rows (acP fid) D.acts) := hP.acts.keep fun q ob hq hob => by rw [h1k q (hP.nA hq).2.1]; exact hob
  refine hA1.app hT2.1 hZl (k := 1) rfl (by omega) (acP_len fid a) ⟨by omega, by omega⟩ ⟨by omega, by omega⟩ fun A' t3 h3 k1 k2 k3 k4 => ?_
  have hA'd : ∀ q, accId A' = some q → h1 q = none := fun q hq => none_of_le hT2.1 (k4 q hq)
  have h3d : h3 d = some (.cells (dC D mn ms A)) := k3 _ _ (fun e => (hP.nA e).1 rfl) h1d
  refine store1 (k2.1 _ _ h3d) (by simp [dC]) k1.hc k1.one rfl ?_
  have hdc : (dC D mn ms A).set 3 A' = dC (D.name a) mn ms A' := rfl
  rw [hdc]
  have hT4 : Turn s h (t3.set d (.cells (dC (D.name a) mn ms A'))) (h3.set d (.cells (dC (D.name a) mn ms A'))) := (hT2.trans k2).trans (Turn.set k2.1 h3d _)
  have hdq : ∀ q, accId A' = some q → q ≠ d := fun q hq e => by have := hA'd q hq; rw [e, h1d] at this; cases this
  obtain ⟨tag', hfin⟩ := hP.re (h3 := h3.set d (.cells (dC (D.name a) mn ms A'))) (D3 := D.name a) (mn3 := mn) (ms3 := ms) (A3 := A') (set_at _ _ _)
    (by rw [set_ne _ _ g1]; exact k3 _ _ (fun e => (hP.nA e).2.1 rfl) h1m)
    (by rw [set_ne _ _ g2]; exact k3 _ _ (fun e => (hP.nA e).2.2 rfl) (by rw [h1k _ (Ne.symm hP.ne)]; exact hP.safe)) hP.ne
    (by
      have := k1.keep (h' := h3.set d (.cells (dC (D.name a) mn ms A'))) fun q ob hq hob => by rw [set_ne _ _ (hdq q hq)]; exact hob
      rw [← rows_one (acP fid) a, ← rows_app] at this
      have e : (D.name a).acts = D.acts ++ [a] := rfl
      rw [e, List.length_append]
      exact this) rfl
    (fun k ob hk ht => by
      have e1 : k ≠ d := fun e => ht (by rw [e]; exact hP.td.1)
      have e2 : k ≠ mn := fun e => ht (by rw [e]; exact hP.td.2.1)
      rw [set_ne _ _ e1]
      exact k3 _ _ (fun e => ht (hP.ta k e).1) (by rw [h1k k e2]; exact hk))
    (.inr hP.td.2.1) (.inr hP.td.2.2) (fun q hq => ⟨by
      by_cases e : q = mn
      · exact .inr (by rw [e]; exact hP.td.2.1)
      · exact .inl (by rw [← h1k q e]; exact hA'd q hq), hdq q hq⟩)
  exact ⟨trivial, A', tag', _, hfin, hT4⟩
/-- The weight of a name's file. -/
def wtN (D : DK) : Value → Int := fun k => match k with
  | .string x => (match look D.now x.data.toList with | some i => ((D.files.getD i fl0).b.length : Int) | none => 0)
  | _ => 0
theorem wtN_at (D : DK) (n : By) : wtN D (encS n) = match look D.now n with | some i => ((D.files.getD i fl0).b.length : Int) | none => 0 := by simp [wtN, encS]
theorem used_sum (hw : Wf K D) {es : List (Value × HV × Nat)} (hr : Reads (nmF fid D.now) D.now.length es) : (es.map fun e => wtN D e.1).sum = D.used := by
  have h1 : (es.map fun e => wtN D e.1) = (es.map fun e => e.1).map (wtN D) := by rw [List.map_map]; rfl
  have h2 : (D.now.map fun x => ((D.files.getD x.2 fl0).b.length : Int)) = (D.now.map fun x => encS x.1).map (wtN D) := by
    rw [List.map_map]
    refine List.map_congr_left fun x hx => ?_
    show _ = wtN D (encS x.1)
    rw [wtN_at, (look_mem hw.sn).2 (show (x.1, x.2) ∈ D.now from hx)]
  unfold DK.used
  rw [h1, h2]
  refine sum_same _ hr.keys ?_ fun k => ⟨fun hk => ?_, fun hk => ?_⟩
  · unfold List.Nodup
    rw [List.pairwise_map]
    exact hw.sn.imp fun h e => bl_ne h (encS_inj e)
  · obtain ⟨e, he, rfl⟩ := List.mem_map.1 hk
    obtain ⟨n, i, e1, e2, -⟩ := nmF_str (hr.get e he)
    exact List.mem_map.2 ⟨(n, i), (look_mem hw.sn).1 e2, e1.symm⟩
  · obtain ⟨x, hx, rfl⟩ := List.mem_map.1 hk
    have : nmF fid D.now (encS x.1) = some (.ptr (fid x.2) 0) := by rw [nmF_at, (look_mem hw.sn).2 (show (x.1, x.2) ∈ D.now from hx)]; rfl
    obtain ⟨b, hb⟩ := hr.all _ _ this
    exact List.mem_map.2 ⟨_, hb, rfl⟩
theorem used_bd (hw : Wf K D) : 0 ≤ D.used ∧ D.used ≤ (D.now.length : Int) * K := by
  unfold DK.used
  have : ∀ l : List Nm, (∀ x ∈ l, x.2 < D.files.length) → 0 ≤ (l.map fun x => ((D.files.getD x.2 fl0).b.length : Int)).sum ∧ (l.map fun x => ((D.files.getD x.2 fl0).b.length : Int)).sum ≤ (l.length : Int) * K := by
    intro l
    induction l with
    | nil => intro _; exact ⟨Int.le_refl 0, by simp⟩
    | cons x l ih =>
      intro hl
      obtain ⟨i1, i2⟩ := ih fun y hy => hl y (List.mem_cons_of_mem _ hy)
      have hx := (hw.at_ (hl x List.mem_cons_self)).1
      rw [List.map_cons, List.sum_cons, List.length_cons]
      have : ((l.length + 1 : Nat) : Int) * (K : Int) = (l.length : Int) * K + K := by rw [Int.natCast_add, Int.add_mul]; simp
      rw [this]
      omega
  exact this _ hw.nn
theorem met_bd (hw : Wf K D) {es : List (Value × HV × Nat)} (hr : Reads (nmF fid D.now) D.now.length es) (seen : List Nat) : 0 ≤ metS es (wtN D) seen ∧ metS es (wtN D) seen ≤ 1000000000000 := by
  unfold metS
  have : ∀ l : List (Value × HV × Nat), (∀ e ∈ l, e ∈ es) → 0 ≤ (l.map fun e => wtN D e.1).sum ∧ (l.map fun e => wtN D e.1).sum ≤ (l.length : Int) * 1000000 := by
    intro l
    induction l with
    | nil => intro _; exact ⟨Int.le_refl 0, by simp⟩
    | cons x l ih =>
      intro hl
      obtain ⟨i1, i2⟩ := ih fun y hy => hl y (List.mem_cons_of_mem _ hy)
      obtain ⟨n, i, e1, e2, -⟩ := nmF_str (hr.get x (hl x List.mem_cons_self))
      have hx := (hw.at_ (hw.look e2)).1
      have hk := hw.k
      have : wtN D x.1 = ((D.files.getD i fl0).b.length : Int) := by rw [e1, wtN_at, e2]
      rw [List.map_cons, List.sum_cons, List.length_cons, this]
      omega
  obtain ⟨h1, h2⟩ := this (es.filter fun e => seen.contains e.2.2) fun e he => (List.mem_filter.1 he).1
  have h3 := List.length_filter_le (fun e : Value × HV × Nat => seen.contains e.2.2) es
  have h4 := hr.len
  have h5 := hw.nw
  have h6 := hw.k
  exact ⟨h1, by omega⟩
theorem used21 (hP : PD h d D tag mn ms A fid B) (hl : HS.le h s) (hw : Wf K D) : HC Try.prog 21 [.ptr d 0] s (fun v t => v = .lit (.int .i64 D.used) ∧ HS.le s t) := by
  refine HC.up (HC21 ?_)
  unfold c21
  have ld1 := fun k => hP.ld hl k
  simp only [eqp27, bindO, hcond, hvNil, hvFld, ld1, dC, List.getElem?_cons_succ, List.getElem?_cons_zero]
  have hm := hl _ _ hP.now
  unfold hRangeM
  simp only [hm]
  intro es cl it hr hit hne
  have hfn : ∀ i, i < D.files.length → fid i ≠ mn := fun i hi e => by
    have := (hP.ti i hi).1
    rw [e, hP.td.2.1] at this
    omega
  refine HLoop.ghost (σ := List Nat) (fun seen => [.lit (.int .i64 (metS es (wtN D) seen))]) (fun seen t => t = ((s.set mn (.mapx .string es cl)).set it (.iter mn cl seen))) (fun seen => leftN es seen) [] (by rw [metS_nil]) rfl ?_
  rintro seen t K' rfl hK
  have e1 : ((s.set mn (.mapx .string es cl)).set it (.iter mn cl seen)) it = some (.iter mn cl seen) := set_at _ _ _
  have e2 : ((s.set mn (.mapx .string es cl)).set it (.iter mn cl seen)) mn = some (.mapx .string es cl) := by rw [set_ne _ _ (Ne.symm hne)]; exact set_at _ _ _
  unfold hNext
  simp only [e1, e2, List.headD_cons]
  refine ⟨trivial, fun hall => ?_, fun e he hs => ?_⟩
  · simp only [vExtract, List.getElem?_cons_zero]
    rw [metS_all _ hall, used_sum hw hr]
    refine ⟨_, _, UpL.close _ e2 hr, rfl, fun k ob hk => ?_⟩
    by_cases e : k = mn
    · subst e; rw [hm] at hk; cases hk; exact set_at _ _ _
    · rw [set_ne _ _ e, set_ne _ _ (ne_new hk hit), set_ne _ _ e]
      exact hk
  · obtain ⟨n, i, g1, g2, g3⟩ := nmF_str (hr.get e he)
    have hi := hw.look g2
    obtain ⟨f1, f2⟩ := hP.file i hi
    have hb := met_bd hw hr seen
    have hb2 := met_bd hw hr (seen ++ [e.2.2])
    have hfi : (((s.set mn (.mapx .string es cl)).set it (.iter mn cl seen)).set it (.iter mn cl (seen ++ [e.2.2]))) (fid i) = some (.cells [B i, .lit (.int .i64 (D.files.getD i fl0).safe)]) := by
      have := hl _ _ f1
      rw [set_ne _ _ (ne_new this hit), set_ne _ _ (ne_new this hit), set_ne _ _ (hfn i hi)]
      exact this
    have hen : vEntry (((s.set mn (.mapx .string es cl)).set it (.iter mn cl seen)).set it (.iter mn cl (seen ++ [e.2.2]))) (.ptr it 0) = some (.tup [.lit e.1, e.2.1]) := by
      unfold vEntry
      have e3 : (((s.set mn (.mapx .string es cl)).set it (.iter mn cl seen)).set it (.iter mn cl (seen ++ [e.2.2]))) mn = some (.mapx .string es cl) := by rw [set_ne _ _ (Ne.symm hne)]; exact e2
      simp only [set_at, e3, if_true, List.getLast?_append, List.getLast?_singleton, Option.some_or, Option.bind_some]
      have : es.find? (fun x => x.2.2 == e.2.2) = some e := by
        have hx := List.find?_isSome.2 (show ∃ x, x ∈ es ∧ (x.2.2 == e.2.2) = true from ⟨e, he, by simp⟩)
        obtain ⟨y, hy⟩ := Option.isSome_iff_exists.1 hx
        have y1 := List.find?_some hy
        have y2 := List.mem_of_find?_eq_some hy
        simp only [beq_iff_eq] at y1
        rw [hy]
        obtain ⟨a, ha, rfl⟩ := List.mem_iff_getElem.1 y2
        obtain ⟨b, hb, rfl⟩ := List.mem_iff_getElem.1 he
        have hn := hr.born
        unfold List.Nodup at hn
        rw [List.pairwise_map, List.pairwise_iff_getElem] at hn
        rcases Nat.lt_trichotomy a b with h' | rfl | h'
        · exact absurd y1 (hn a b ha hb h')
        · rfl
        · exact absurd y1.symm (hn b a hb ha h')
      rw [this]
      rfl
    have hwt : wtN D e.1 = ((D.files.getD i fl0).b.length : Int) := by rw [g1, wtN_at, g2]
    have hsn := metS_snoc (wtN D) hr.born he hs
    rw [hwt] at hsn
    rw [hsn] at hb2
    simp only [vExtract, List.getElem?_cons_zero, List.getElem?_cons_succ, hen, g3, hvNil, hvFld, load_cell 0 1 hfi]
    rw [show vLenT (Try.prog.underlying 22) (((s.set mn (.mapx .string es cl)).set it (.iter mn cl seen)).set it (.iter mn cl (seen ++ [e.2.2]))) (B i) = some (.lit (.int .i64 (D.files.getD i fl0).b.length)) from f2.len _ _]
    simp only
    rw [add_n (by omega) (by omega)]
    simp only
    refine hK (seen ++ [e.2.2]) _ _ (by rw [hsn]) (by rw [set_set]) (leftN_lt he hs)
end
end Go.Proofs.Ythfoanmokcepcaa.DS
end
