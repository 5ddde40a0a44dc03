/-
  No cell of these rows narrows 'for every input' (looked for: loops, veiled, ifaces, maps, wideKeys, modest, calm, conditions, laid).
  DERIVED. THE GIVEN ROWS OF THIS SEAT. 10 by the template 'for every input the law returns true; each argument reads behind the call as it read before'; 0 by the template 'total and deterministic' (their statements: YtpibjdkenifggaaTotals.lean).
  GIVEN WITH THE SEED: the statements are not yours to turn. If you find one false, say at which input.
  Laid BY PROGRAM, IN A SANDBOX (cutbox-rows.mjs): the forced cells as the released guide's own fill.sh prints them over the translation 38f051fe72500255… (all of the seat's roots in one cut). By AI agents, Wed Nov 11 2026. No macro, syntax, notation, axiom, sorry.
-/
import Derived.Test.YtpibjdkenifggaaChecked
import GoSem.Claim
import GoSem.ClaimJoined
import GoSem.ClaimMapViews
import Derived.JoinedTies
import Derived.KernelRfl
namespace Go.Proofs.Ytpibjdkenifggaa
/- THE CELL 'sum', in the pinned program and in every row, IS THE sha256 OF THE DUMP (.gsa) THAT YtpibjdkenifggaaProg.lean LOADS. Nothing in Lean hashes anything: it is a label: what it is worth is what the hold of that sum in a sandbox is worth. -/
noncomputable def Try.pinned : Pinned := { name := "ytpibjdkenifggaa", sum := "38f051fe72500255fff66a6194839960e0f5bfee155b50bfbfa8da374b2289cc", checked := Try.checked }
namespace Rows
def none {H : Type} : Left H := { results := [], args := [] }

/-- 'cordwainlaw12.KeymapGreatest': WHATEVER THE INPUT: true; the input reads as it did. -/
def keymapGreatestSpec : ChangeSpec := { name := "keymapGreatest", fn := fun _ => fun
  | [d] => { results := [.lit (.bool true)], args := [d] }
  | _ => none }
def keymapGreatestRow : OpenClaim := { program := "ytpibjdkenifggaa", sum := "38f051fe72500255fff66a6194839960e0f5bfee155b50bfbfa8da374b2289cc", func := "cordwain/cordwainlaw12.KeymapGreatest", spec := "keymapGreatest", apart := false }
def KeymapGreatestSaid : Prop := keymapGreatestRow.holds Try.pinned (OpenSpec.ofChange keymapGreatestSpec)

/-- ITS FALSE NEIGHBOUR: 'it returns false'. Refute it at one input. -/
def keymapGreatestWrong : ChangeSpec := { name := "keymapGreatest", fn := fun _ => fun
  | [d] => { results := [.lit (.bool false)], args := [d] }
  | _ => none }
def KeymapGreatestWrongFalsely : Prop := keymapGreatestRow.holds Try.pinned (OpenSpec.ofChange keymapGreatestWrong)

/-- 'cordwainlaw12.KeymapCovers': WHATEVER THE INPUT: true; the input reads as it did. -/
def keymapCoversSpec : ChangeSpec := { name := "keymapCovers", fn := fun _ => fun
  | [d1, d2, d3] => { results := [.lit (.bool true)], args := [d1, d2, d3] }
  | _ => none }
def keymapCoversRow : OpenClaim := { program := "ytpibjdkenifggaa", sum := "38f051fe72500255fff66a6194839960e0f5bfee155b50bfbfa8da374b2289cc", func := "cordwain/cordwainlaw12.KeymapCovers", spec := "keymapCovers", apart := false }
def KeymapCoversSaid : Prop := keymapCoversRow.holds Try.pinned (OpenSpec.ofChange keymapCoversSpec)

/-- ITS FALSE NEIGHBOUR: 'it returns false'. Refute it at one input. -/
def keymapCoversWrong : ChangeSpec := { name := "keymapCovers", fn := fun _ => fun
  | [d1, d2, d3] => { results := [.lit (.bool false)], args := [d1, d2, d3] }
  | _ => none }
def KeymapCoversWrongFalsely : Prop := keymapCoversRow.holds Try.pinned (OpenSpec.ofChange keymapCoversWrong)

/-- 'cordwainlaw19.QuotaBound': WHATEVER THE INPUT: true; the input reads as it did. -/
def quotaBoundSpec : ChangeSpec := { name := "quotaBound", fn := fun _ => fun
  | [d1, d2, d3, d4] => { results := [.lit (.bool true)], args := [d1, d2, d3, d4] }
  | _ => none }
def quotaBoundRow : OpenClaim := { program := "ytpibjdkenifggaa", sum := "38f051fe72500255fff66a6194839960e0f5bfee155b50bfbfa8da374b2289cc", func := "cordwain/cordwainlaw19.QuotaBound", spec := "quotaBound", unfollowed := true, recurses := true, apart := false }
def QuotaBoundSaid : Prop := quotaBoundRow.holds Try.pinned (OpenSpec.ofChange quotaBoundSpec)

/-- ITS FALSE NEIGHBOUR: 'it returns false'. Refute it at one input. -/
def quotaBoundWrong : ChangeSpec := { name := "quotaBound", fn := fun _ => fun
  | [d1, d2, d3, d4] => { results := [.lit (.bool false)], args := [d1, d2, d3, d4] }
  | _ => none }
def QuotaBoundWrongFalsely : Prop := quotaBoundRow.holds Try.pinned (OpenSpec.ofChange quotaBoundWrong)

/-- 'cordwainlaw23.NetKeeps': WHATEVER THE INPUT: true; the input reads as it did. -/
def netKeepsSpec : ChangeSpec := { name := "netKeeps", fn := fun _ => fun
  | [d1, d2] => { results := [.lit (.bool true)], args := [d1, d2] }
  | _ => none }
def netKeepsRow : OpenClaim := { program := "ytpibjdkenifggaa", sum := "38f051fe72500255fff66a6194839960e0f5bfee155b50bfbfa8da374b2289cc", func := "cordwain/cordwainlaw23.NetKeeps", spec := "netKeeps", unfollowed := true, recurses := true, apart := false }
def NetKeepsSaid : Prop := netKeepsRow.holds Try.pinned (OpenSpec.ofChange netKeepsSpec)

/-- ITS FALSE NEIGHBOUR: 'it returns false'. Refute it at one input. -/
def netKeepsWrong : ChangeSpec := { name := "netKeeps", fn := fun _ => fun
  | [d1, d2] => { results := [.lit (.bool false)], args := [d1, d2] }
  | _ => none }
def NetKeepsWrongFalsely : Prop := netKeepsRow.holds Try.pinned (OpenSpec.ofChange netKeepsWrong)

/-- 'cordwainlaw23.NetOrder': WHATEVER THE INPUT: true; the input reads as it did. -/
def netOrderSpec : ChangeSpec := { name := "netOrder", fn := fun _ => fun
  | [d1, d2] => { results := [.lit (.bool true)], args := [d1, d2] }
  | _ => none }
def netOrderRow : OpenClaim := { program := "ytpibjdkenifggaa", sum := "38f051fe72500255fff66a6194839960e0f5bfee155b50bfbfa8da374b2289cc", func := "cordwain/cordwainlaw23.NetOrder", spec := "netOrder", unfollowed := true, recurses := true, apart := false }
def NetOrderSaid : Prop := netOrderRow.holds Try.pinned (OpenSpec.ofChange netOrderSpec)

/-- ITS FALSE NEIGHBOUR: 'it returns false'. Refute it at one input. -/
def netOrderWrong : ChangeSpec := { name := "netOrder", fn := fun _ => fun
  | [d1, d2] => { results := [.lit (.bool false)], args := [d1, d2] }
  | _ => none }
def NetOrderWrongFalsely : Prop := netOrderRow.holds Try.pinned (OpenSpec.ofChange netOrderWrong)

/-- 'cordwainlaw6.OindexBack': WHATEVER THE INPUT: true; the input reads as it did. -/
def oindexBackSpec : ChangeSpec := { name := "oindexBack", fn := fun _ => fun
  | [d1, d2] => { results := [.lit (.bool true)], args := [d1, d2] }
  | _ => none }
def oindexBackRow : OpenClaim := { program := "ytpibjdkenifggaa", sum := "38f051fe72500255fff66a6194839960e0f5bfee155b50bfbfa8da374b2289cc", func := "cordwain/cordwainlaw6.OindexBack", spec := "oindexBack", apart := false }
def OindexBackSaid : Prop := oindexBackRow.holds Try.pinned (OpenSpec.ofChange oindexBackSpec)

/-- ITS FALSE NEIGHBOUR: 'it returns false'. Refute it at one input. -/
def oindexBackWrong : ChangeSpec := { name := "oindexBack", fn := fun _ => fun
  | [d1, d2] => { results := [.lit (.bool false)], args := [d1, d2] }
  | _ => none }
def OindexBackWrongFalsely : Prop := oindexBackRow.holds Try.pinned (OpenSpec.ofChange oindexBackWrong)

/-- 'cordwainlaw12.KeymapPlays': WHATEVER THE INPUT: true; the input reads as it did. -/
def keymapPlaysSpec : ChangeSpec := { name := "keymapPlays", fn := fun _ => fun
  | [d1, d2, d3, d4] => { results := [.lit (.bool true)], args := [d1, d2, d3, d4] }
  | _ => none }
def keymapPlaysRow : OpenClaim := { program := "ytpibjdkenifggaa", sum := "38f051fe72500255fff66a6194839960e0f5bfee155b50bfbfa8da374b2289cc", func := "cordwain/cordwainlaw12.KeymapPlays", spec := "keymapPlays", unfollowed := true, recurses := true, apart := false }
def KeymapPlaysSaid : Prop := keymapPlaysRow.holds Try.pinned (OpenSpec.ofChange keymapPlaysSpec)

/-- ITS FALSE NEIGHBOUR: 'it returns false'. Refute it at one input. -/
def keymapPlaysWrong : ChangeSpec := { name := "keymapPlays", fn := fun _ => fun
  | [d1, d2, d3, d4] => { results := [.lit (.bool false)], args := [d1, d2, d3, d4] }
  | _ => none }
def KeymapPlaysWrongFalsely : Prop := keymapPlaysRow.holds Try.pinned (OpenSpec.ofChange keymapPlaysWrong)

/-- 'cordwainlaw19.QuotaBack': WHATEVER THE INPUT: true; the input reads as it did. -/
def quotaBackSpec : ChangeSpec := { name := "quotaBack", fn := fun _ => fun
  | [d1, d2, d3] => { results := [.lit (.bool true)], args := [d1, d2, d3] }
  | _ => none }
def quotaBackRow : OpenClaim := { program := "ytpibjdkenifggaa", sum := "38f051fe72500255fff66a6194839960e0f5bfee155b50bfbfa8da374b2289cc", func := "cordwain/cordwainlaw19.QuotaBack", spec := "quotaBack", unfollowed := true, recurses := true, apart := false }
def QuotaBackSaid : Prop := quotaBackRow.holds Try.pinned (OpenSpec.ofChange quotaBackSpec)

/-- ITS FALSE NEIGHBOUR: 'it returns false'. Refute it at one input. -/
def quotaBackWrong : ChangeSpec := { name := "quotaBack", fn := fun _ => fun
  | [d1, d2, d3] => { results := [.lit (.bool false)], args := [d1, d2, d3] }
  | _ => none }
def QuotaBackWrongFalsely : Prop := quotaBackRow.holds Try.pinned (OpenSpec.ofChange quotaBackWrong)

/-- 'cordwainlaw12.KeymapBuilds': WHATEVER THE INPUT: true; the input reads as it did. -/
def keymapBuildsSpec : ChangeSpec := { name := "keymapBuilds", fn := fun _ => fun
  | [d1, d2, d3] => { results := [.lit (.bool true)], args := [d1, d2, d3] }
  | _ => none }
def keymapBuildsRow : OpenClaim := { program := "ytpibjdkenifggaa", sum := "38f051fe72500255fff66a6194839960e0f5bfee155b50bfbfa8da374b2289cc", func := "cordwain/cordwainlaw12.KeymapBuilds", spec := "keymapBuilds", unfollowed := true, recurses := true, apart := false }
def KeymapBuildsSaid : Prop := keymapBuildsRow.holds Try.pinned (OpenSpec.ofChange keymapBuildsSpec)

/-- ITS FALSE NEIGHBOUR: 'it returns false'. Refute it at one input. -/
def keymapBuildsWrong : ChangeSpec := { name := "keymapBuilds", fn := fun _ => fun
  | [d1, d2, d3] => { results := [.lit (.bool false)], args := [d1, d2, d3] }
  | _ => none }
def KeymapBuildsWrongFalsely : Prop := keymapBuildsRow.holds Try.pinned (OpenSpec.ofChange keymapBuildsWrong)

/-- 'cordwainlaw19.QuotaApart': WHATEVER THE INPUT: true; the input reads as it did. -/
def quotaApartSpec : ChangeSpec := { name := "quotaApart", fn := fun _ => fun
  | [d1, d2] => { results := [.lit (.bool true)], args := [d1, d2] }
  | _ => none }
def quotaApartRow : OpenClaim := { program := "ytpibjdkenifggaa", sum := "38f051fe72500255fff66a6194839960e0f5bfee155b50bfbfa8da374b2289cc", func := "cordwain/cordwainlaw19.QuotaApart", spec := "quotaApart", unfollowed := true, recurses := true, apart := false }
def QuotaApartSaid : Prop := quotaApartRow.holds Try.pinned (OpenSpec.ofChange quotaApartSpec)

/-- ITS FALSE NEIGHBOUR: 'it returns false'. Refute it at one input. -/
def quotaApartWrong : ChangeSpec := { name := "quotaApart", fn := fun _ => fun
  | [d1, d2] => { results := [.lit (.bool false)], args := [d1, d2] }
  | _ => none }
def QuotaApartWrongFalsely : Prop := quotaApartRow.holds Try.pinned (OpenSpec.ofChange quotaApartWrong)

/- THE SECOND FORM. 'bulk': how many values and letters a reading holds, each counted each time it is reached (what is shared counts as often as it is met; a slice's spare places count too). A statement '..UptoSaid' is the law's where the arguments, and the package variables that the reading takes, are together of bulk at most 1048576: NARROWER than '..Said'. Prove '..Said' where nothing that the law and all that it calls make is longer than what came in: it says more and counts as full. Else prove '..UptoSaid'. A law counts once. -/
mutual
def uptoBulk {H : Type} : DataW H → Nat
  | .lit (.string bytes) => bytes.length + 1
  | .lit _ => 1
  | .nil => 1
  | .ptr d => uptoBulk d + 1
  | .slice elems spare => uptoBulkAll elems + uptoBulkAll spare + 1
  | .agg parts => uptoBulkAll parts + 1
  | .iface _ d => uptoBulk d + 1
  | .map entries => uptoBulkEntries entries + 1
  | .held _ => 1
def uptoBulkAll {H : Type} : List (DataW H) → Nat
  | [] => 0
  | d :: r => uptoBulk d + uptoBulkAll r
def uptoBulkEntries {H : Type} : List (Lit × DataW H) → Nat
  | [] => 0
  | x :: r => uptoBulkEntry x + uptoBulkEntries r
def uptoBulkEntry {H : Type} : Lit × DataW H → Nat
  | (.string bytes, d) => bytes.length + uptoBulk d + 1
  | (_, d) => uptoBulk d + 1
 end
def uptoSmall : (H : Type) → List (DataW H) → Bool := fun _ ds => decide (uptoBulkAll ds ≤ 1048576)
def OpenSpec.upto (s : _root_.Go.ChangeSpec) : _root_.Go.OpenSpec := { _root_.Go.OpenSpec.ofChange s with cond := some uptoSmall }

/-- 'cordwainlaw12.KeymapGreatest', WHERE WHAT IT READS IS OF BULK AT MOST 1048576: true; the input reads as it did. -/
def keymapGreatestUptoRow : OpenClaim := { program := "ytpibjdkenifggaa", sum := "38f051fe72500255fff66a6194839960e0f5bfee155b50bfbfa8da374b2289cc", func := "cordwain/cordwainlaw12.KeymapGreatest", spec := "keymapGreatest", apart := false, narrowed := true }
def KeymapGreatestUptoSaid : Prop := keymapGreatestUptoRow.holds Try.pinned (OpenSpec.upto keymapGreatestSpec)

/-- 'cordwainlaw12.KeymapCovers', WHERE WHAT IT READS IS OF BULK AT MOST 1048576: true; the input reads as it did. -/
def keymapCoversUptoRow : OpenClaim := { program := "ytpibjdkenifggaa", sum := "38f051fe72500255fff66a6194839960e0f5bfee155b50bfbfa8da374b2289cc", func := "cordwain/cordwainlaw12.KeymapCovers", spec := "keymapCovers", apart := false, narrowed := true }
def KeymapCoversUptoSaid : Prop := keymapCoversUptoRow.holds Try.pinned (OpenSpec.upto keymapCoversSpec)

/-- 'cordwainlaw19.QuotaBound', WHERE WHAT IT READS IS OF BULK AT MOST 1048576: true; the input reads as it did. -/
def quotaBoundUptoRow : OpenClaim := { program := "ytpibjdkenifggaa", sum := "38f051fe72500255fff66a6194839960e0f5bfee155b50bfbfa8da374b2289cc", func := "cordwain/cordwainlaw19.QuotaBound", spec := "quotaBound", unfollowed := true, recurses := true, apart := false, narrowed := true }
def QuotaBoundUptoSaid : Prop := quotaBoundUptoRow.holds Try.pinned (OpenSpec.upto quotaBoundSpec)

/-- 'cordwainlaw23.NetKeeps', WHERE WHAT IT READS IS OF BULK AT MOST 1048576: true; the input reads as it did. -/
def netKeepsUptoRow : OpenClaim := { program := "ytpibjdkenifggaa", sum := "38f051fe72500255fff66a6194839960e0f5bfee155b50bfbfa8da374b2289cc", func := "cordwain/cordwainlaw23.NetKeeps", spec := "netKeeps", unfollowed := true, recurses := true, apart := false, narrowed := true }
def NetKeepsUptoSaid : Prop := netKeepsUptoRow.holds Try.pinned (OpenSpec.upto netKeepsSpec)

/-- 'cordwainlaw23.NetOrder', WHERE WHAT IT READS IS OF BULK AT MOST 1048576: true; the input reads as it did. -/
def netOrderUptoRow : OpenClaim := { program := "ytpibjdkenifggaa", sum := "38f051fe72500255fff66a6194839960e0f5bfee155b50bfbfa8da374b2289cc", func := "cordwain/cordwainlaw23.NetOrder", spec := "netOrder", unfollowed := true, recurses := true, apart := false, narrowed := true }
def NetOrderUptoSaid : Prop := netOrderUptoRow.holds Try.pinned (OpenSpec.upto netOrderSpec)

/-- 'cordwainlaw6.OindexBack', WHERE WHAT IT READS IS OF BULK AT MOST 1048576: true; the input reads as it did. -/
def oindexBackUptoRow : OpenClaim := { program := "ytpibjdkenifggaa", sum := "38f051fe72500255fff66a6194839960e0f5bfee155b50bfbfa8da374b2289cc", func := "cordwain/cordwainlaw6.OindexBack", spec := "oindexBack", apart := false, narrowed := true }
def OindexBackUptoSaid : Prop := oindexBackUptoRow.holds Try.pinned (OpenSpec.upto oindexBackSpec)

/-- 'cordwainlaw12.KeymapPlays', WHERE WHAT IT READS IS OF BULK AT MOST 1048576: true; the input reads as it did. -/
def keymapPlaysUptoRow : OpenClaim := { program := "ytpibjdkenifggaa", sum := "38f051fe72500255fff66a6194839960e0f5bfee155b50bfbfa8da374b2289cc", func := "cordwain/cordwainlaw12.KeymapPlays", spec := "keymapPlays", unfollowed := true, recurses := true, apart := false, narrowed := true }
def KeymapPlaysUptoSaid : Prop := keymapPlaysUptoRow.holds Try.pinned (OpenSpec.upto keymapPlaysSpec)

/-- 'cordwainlaw19.QuotaBack', WHERE WHAT IT READS IS OF BULK AT MOST 1048576: true; the input reads as it did. -/
def quotaBackUptoRow : OpenClaim := { program := "ytpibjdkenifggaa", sum := "38f051fe72500255fff66a6194839960e0f5bfee155b50bfbfa8da374b2289cc", func := "cordwain/cordwainlaw19.QuotaBack", spec := "quotaBack", unfollowed := true, recurses := true, apart := false, narrowed := true }
def QuotaBackUptoSaid : Prop := quotaBackUptoRow.holds Try.pinned (OpenSpec.upto quotaBackSpec)

/-- 'cordwainlaw12.KeymapBuilds', WHERE WHAT IT READS IS OF BULK AT MOST 1048576: true; the input reads as it did. -/
def keymapBuildsUptoRow : OpenClaim := { program := "ytpibjdkenifggaa", sum := "38f051fe72500255fff66a6194839960e0f5bfee155b50bfbfa8da374b2289cc", func := "cordwain/cordwainlaw12.KeymapBuilds", spec := "keymapBuilds", unfollowed := true, recurses := true, apart := false, narrowed := true }
def KeymapBuildsUptoSaid : Prop := keymapBuildsUptoRow.holds Try.pinned (OpenSpec.upto keymapBuildsSpec)

/-- 'cordwainlaw19.QuotaApart', WHERE WHAT IT READS IS OF BULK AT MOST 1048576: true; the input reads as it did. -/
def quotaApartUptoRow : OpenClaim := { program := "ytpibjdkenifggaa", sum := "38f051fe72500255fff66a6194839960e0f5bfee155b50bfbfa8da374b2289cc", func := "cordwain/cordwainlaw19.QuotaApart", spec := "quotaApart", unfollowed := true, recurses := true, apart := false, narrowed := true }
def QuotaApartUptoSaid : Prop := quotaApartUptoRow.holds Try.pinned (OpenSpec.upto quotaApartSpec)

end Rows
end Go.Proofs.Ytpibjdkenifggaa
