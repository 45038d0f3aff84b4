/-
  NARROWER THAN 'FOR EVERY INPUT', by the rows' own cells (each row's printed sentence says how): DatagroupsForms: laid · DatagroupsWrites: laid · DatagroupsOpens: laid · DatagroupsOpensMade: laid · DatagroupsReturns: laid.
  DERIVED. THE GIVEN ROWS OF THIS SEAT. 5 by the template 'for every input the law returns true; each argument reads behind the call as it read before'; 0 by the template 'total and deterministic' (their statements: YtnjanpmgonoeeaaGreatDoorTotals.lean).
  GIVEN WITH THE SEED: the statements are not yours to turn. If you find one false, say at which input.
  Laid BY PROGRAM, IN A SANDBOX (cutbox-rows.mjs): the forced cells as the released guide's own fill.sh prints them over the translation 2a6cb0820dd4284e… (all of the seat's roots in one cut). By AI agents, Wed Nov 11 2026. No macro, syntax, notation, axiom, sorry.
-/
import Derived.Test.YtnjanpmgonoeeaaGreatDoorChecked
import GoSem.PinnedTables
import GoSem.Claim
import GoSem.ClaimJoined
import GoSem.ClaimMapViews
import Derived.JoinedTies
import Derived.KernelRfl
namespace Go.Proofs.YtnjanpmgonoeeaaGreatDoor
/- THE CELL 'sum', in the pinned program and in every row, IS THE sha256 OF THE DUMP (.gsa) THAT YtnjanpmgonoeeaaGreatDoorProg.lean LOADS. Nothing in Lean hashes anything: it is a label: what it is worth is what the hold of that sum in a sandbox is worth. -/
noncomputable def Tryz.pinned : Pinned := { name := "ytnjanpmgonoeeaagreatdoor", sum := "2a6cb0820dd4284e19beb9b87eb966bcc7ce0698f99231431859448ba5b919d9", checked := Tryz.checked }
namespace Rows
def none {H : Type} : Left H := { results := [], args := [] }

/- WHAT THE LISTED PACKAGE-LEVEL VARIABLES READ AS WHEN THE CALL BEGINS. Each datum BY PROGRAM (the guide's laid-datum.mjs) off the statement by which the dump's own 'gosem.cut.vars' lays the variable. In a bare row this is a premise. The card (YtnjanpmgonoeeaaGreatDoorCards.lean) ties it to the program's text. -/
def laid_traveldoc_traveldocref15_tags {H : Type} : DataW H := .agg [.lit (.int .i64 97), .lit (.int .i64 117), .lit (.int .i64 99), .lit (.int .i64 118), .lit (.int .i64 101), .lit (.int .i64 102), .lit (.int .i64 103), .lit (.int .i64 104), .lit (.int .i64 105), .lit (.int .i64 106), .lit (.int .i64 107), .lit (.int .i64 108), .lit (.int .i64 109), .lit (.int .i64 110), .lit (.int .i64 111), .lit (.int .i64 112), .lit (.int .i64 96), .lit (.int .i64 119)]
def laid_traveldoc_datagroups_tags {H : Type} : DataW H := .agg [.lit (.int .i64 97), .lit (.int .i64 117), .lit (.int .i64 99), .lit (.int .i64 118), .lit (.int .i64 101), .lit (.int .i64 102), .lit (.int .i64 103), .lit (.int .i64 104), .lit (.int .i64 105), .lit (.int .i64 106), .lit (.int .i64 107), .lit (.int .i64 108), .lit (.int .i64 109), .lit (.int .i64 110), .lit (.int .i64 111), .lit (.int .i64 112), .lit (.int .i64 96), .lit (.int .i64 119)]
def laid_traveldoc_dates_lengths {H : Type} : DataW H := .agg [.lit (.int .i64 31), .lit (.int .i64 28), .lit (.int .i64 31), .lit (.int .i64 30), .lit (.int .i64 31), .lit (.int .i64 30), .lit (.int .i64 31), .lit (.int .i64 31), .lit (.int .i64 30), .lit (.int .i64 31), .lit (.int .i64 30), .lit (.int .i64 31)]
def laid_unicode_utf8_acceptRanges {H : Type} : DataW H := .agg [.agg [.lit (.int .u8 128), .lit (.int .u8 191)], .agg [.lit (.int .u8 160), .lit (.int .u8 191)], .agg [.lit (.int .u8 128), .lit (.int .u8 159)], .agg [.lit (.int .u8 144), .lit (.int .u8 191)], .agg [.lit (.int .u8 128), .lit (.int .u8 143)], .agg [.lit (.int .u8 0), .lit (.int .u8 0)], .agg [.lit (.int .u8 0), .lit (.int .u8 0)], .agg [.lit (.int .u8 0), .lit (.int .u8 0)], .agg [.lit (.int .u8 0), .lit (.int .u8 0)], .agg [.lit (.int .u8 0), .lit (.int .u8 0)], .agg [.lit (.int .u8 0), .lit (.int .u8 0)], .agg [.lit (.int .u8 0), .lit (.int .u8 0)], .agg [.lit (.int .u8 0), .lit (.int .u8 0)], .agg [.lit (.int .u8 0), .lit (.int .u8 0)], .agg [.lit (.int .u8 0), .lit (.int .u8 0)], .agg [.lit (.int .u8 0), .lit (.int .u8 0)]]
def laid_traveldoc_securityinfo_endings {H : Type} : DataW H := .agg [.agg [.lit (.int .u8 0), .lit (.int .u8 0)], .agg [.lit (.int .u8 0), .lit (.int .u8 0)], .agg [.lit (.int .u8 4), .lit (.int .u8 1)], .agg [.lit (.int .u8 4), .lit (.int .u8 2)], .agg [.lit (.int .u8 3), .lit (.int .u8 1)], .agg [.lit (.int .u8 2), .lit (.int .u8 1)], .agg [.lit (.int .u8 5), .lit (.int .u8 1)]]
/-- One of Go's own tables, pinned by name: the form's constant. -/
def laid_unicode_utf8_first : DataW Unit := Go.Pinned.utf8First

/-- 'traveldoclaw15.DatagroupsForms': WHATEVER THE INPUT: true; the input reads as it did. -/
def datagroupsFormsSpec : ChangeSpec := { name := "datagroupsForms", fn := fun _ => fun
  | [d] => { results := [.lit (.bool true)], args := [d] }
  | _ => none }
def datagroupsFormsRow : OpenClaim := { program := "ytnjanpmgonoeeaagreatdoor", sum := "2a6cb0820dd4284e19beb9b87eb966bcc7ce0698f99231431859448ba5b919d9", func := "traveldoc/traveldoclaw15.DatagroupsForms", spec := "datagroupsForms", recurses := true, named := ["traveldoc/datagroups.tags", "traveldoc/traveldocref15.tags"], apart := false, laid := [("traveldoc/traveldocref15.tags", laid_traveldoc_traveldocref15_tags), ("traveldoc/datagroups.tags", laid_traveldoc_datagroups_tags)] }
def DatagroupsFormsSaid : Prop := datagroupsFormsRow.holds Tryz.pinned (OpenSpec.ofChange datagroupsFormsSpec)

/-- ITS FALSE NEIGHBOUR: 'it returns false'. Refute it at one input. -/
def datagroupsFormsWrong : ChangeSpec := { name := "datagroupsForms", fn := fun _ => fun
  | [d] => { results := [.lit (.bool false)], args := [d] }
  | _ => none }
def DatagroupsFormsWrongFalsely : Prop := datagroupsFormsRow.holds Tryz.pinned (OpenSpec.ofChange datagroupsFormsWrong)

/-- 'traveldoclaw15.DatagroupsWrites': WHATEVER THE INPUT: true; the input reads as it did. -/
def datagroupsWritesSpec : ChangeSpec := { name := "datagroupsWrites", fn := fun _ => fun
  | [d1, d2] => { results := [.lit (.bool true)], args := [d1, d2] }
  | _ => none }
def datagroupsWritesRow : OpenClaim := { program := "ytnjanpmgonoeeaagreatdoor", sum := "2a6cb0820dd4284e19beb9b87eb966bcc7ce0698f99231431859448ba5b919d9", func := "traveldoc/traveldoclaw15.DatagroupsWrites", spec := "datagroupsWrites", inPlace := ["internal/bytealg.IndexByteString", "internal/bytealg.IndexString", "internal/abi.NoEscape", "internal/bytealg.MakeNoZero", "internal/bytealg.CountString"], unfollowed := true, recurses := true, named := ["traveldoc/datagroups.tags", "traveldoc/dates.lengths", "unicode/utf8.first", "unicode/utf8.acceptRanges", "internal/bytealg.MaxLen", "traveldoc/traveldocref15.tags", "traveldoc/securityinfo.endings"], apart := false, laid := [("traveldoc/dates.lengths", laid_traveldoc_dates_lengths), ("traveldoc/traveldocref15.tags", laid_traveldoc_traveldocref15_tags), ("unicode/utf8.acceptRanges", laid_unicode_utf8_acceptRanges), ("traveldoc/securityinfo.endings", laid_traveldoc_securityinfo_endings), ("traveldoc/datagroups.tags", laid_traveldoc_datagroups_tags), ("unicode/utf8.first", laid_unicode_utf8_first)] }
def DatagroupsWritesSaid : Prop := datagroupsWritesRow.holds Tryz.pinned (OpenSpec.ofChange datagroupsWritesSpec)

/-- ITS FALSE NEIGHBOUR: 'it returns false'. Refute it at one input. -/
def datagroupsWritesWrong : ChangeSpec := { name := "datagroupsWrites", fn := fun _ => fun
  | [d1, d2] => { results := [.lit (.bool false)], args := [d1, d2] }
  | _ => none }
def DatagroupsWritesWrongFalsely : Prop := datagroupsWritesRow.holds Tryz.pinned (OpenSpec.ofChange datagroupsWritesWrong)

/-- 'traveldoclaw15.DatagroupsOpens': WHATEVER THE INPUT: true; the input reads as it did. -/
def datagroupsOpensSpec : ChangeSpec := { name := "datagroupsOpens", fn := fun _ => fun
  | [d] => { results := [.lit (.bool true)], args := [d] }
  | _ => none }
def datagroupsOpensRow : OpenClaim := { program := "ytnjanpmgonoeeaagreatdoor", sum := "2a6cb0820dd4284e19beb9b87eb966bcc7ce0698f99231431859448ba5b919d9", func := "traveldoc/traveldoclaw15.DatagroupsOpens", spec := "datagroupsOpens", inPlace := ["internal/bytealg.IndexByteString", "internal/bytealg.IndexString", "internal/bytealg.CountString", "internal/abi.NoEscape", "internal/bytealg.MakeNoZero"], unfollowed := true, recurses := true, named := ["traveldoc/datagroups.tags", "traveldoc/traveldocref15.tags", "unicode/utf8.first", "unicode/utf8.acceptRanges", "internal/bytealg.MaxLen", "traveldoc/dates.lengths", "traveldoc/securityinfo.endings"], apart := false, laid := [("traveldoc/dates.lengths", laid_traveldoc_dates_lengths), ("traveldoc/traveldocref15.tags", laid_traveldoc_traveldocref15_tags), ("unicode/utf8.acceptRanges", laid_unicode_utf8_acceptRanges), ("traveldoc/securityinfo.endings", laid_traveldoc_securityinfo_endings), ("traveldoc/datagroups.tags", laid_traveldoc_datagroups_tags), ("unicode/utf8.first", laid_unicode_utf8_first)] }
def DatagroupsOpensSaid : Prop := datagroupsOpensRow.holds Tryz.pinned (OpenSpec.ofChange datagroupsOpensSpec)

/-- ITS FALSE NEIGHBOUR: 'it returns false'. Refute it at one input. -/
def datagroupsOpensWrong : ChangeSpec := { name := "datagroupsOpens", fn := fun _ => fun
  | [d] => { results := [.lit (.bool false)], args := [d] }
  | _ => none }
def DatagroupsOpensWrongFalsely : Prop := datagroupsOpensRow.holds Tryz.pinned (OpenSpec.ofChange datagroupsOpensWrong)

/-- 'traveldoclaw15.DatagroupsOpensMade': WHATEVER THE INPUT: true; the input reads as it did. -/
def datagroupsOpensMadeSpec : ChangeSpec := { name := "datagroupsOpensMade", fn := fun _ => fun
  | [d] => { results := [.lit (.bool true)], args := [d] }
  | _ => none }
def datagroupsOpensMadeRow : OpenClaim := { program := "ytnjanpmgonoeeaagreatdoor", sum := "2a6cb0820dd4284e19beb9b87eb966bcc7ce0698f99231431859448ba5b919d9", func := "traveldoc/traveldoclaw15.DatagroupsOpensMade", spec := "datagroupsOpensMade", inPlace := ["internal/bytealg.IndexByteString", "internal/bytealg.IndexString", "internal/bytealg.CountString", "internal/abi.NoEscape", "internal/bytealg.MakeNoZero"], unfollowed := true, recurses := true, named := ["traveldoc/datagroups.tags", "traveldoc/traveldocref15.tags", "unicode/utf8.first", "unicode/utf8.acceptRanges", "internal/bytealg.MaxLen", "traveldoc/dates.lengths", "traveldoc/securityinfo.endings"], apart := false, laid := [("traveldoc/dates.lengths", laid_traveldoc_dates_lengths), ("traveldoc/traveldocref15.tags", laid_traveldoc_traveldocref15_tags), ("unicode/utf8.acceptRanges", laid_unicode_utf8_acceptRanges), ("traveldoc/securityinfo.endings", laid_traveldoc_securityinfo_endings), ("traveldoc/datagroups.tags", laid_traveldoc_datagroups_tags), ("unicode/utf8.first", laid_unicode_utf8_first)] }
def DatagroupsOpensMadeSaid : Prop := datagroupsOpensMadeRow.holds Tryz.pinned (OpenSpec.ofChange datagroupsOpensMadeSpec)

/-- ITS FALSE NEIGHBOUR: 'it returns false'. Refute it at one input. -/
def datagroupsOpensMadeWrong : ChangeSpec := { name := "datagroupsOpensMade", fn := fun _ => fun
  | [d] => { results := [.lit (.bool false)], args := [d] }
  | _ => none }
def DatagroupsOpensMadeWrongFalsely : Prop := datagroupsOpensMadeRow.holds Tryz.pinned (OpenSpec.ofChange datagroupsOpensMadeWrong)

/-- 'traveldoclaw15.DatagroupsReturns': WHATEVER THE INPUT: true; the input reads as it did. -/
def datagroupsReturnsSpec : ChangeSpec := { name := "datagroupsReturns", fn := fun _ => fun
  | [d1, d2] => { results := [.lit (.bool true)], args := [d1, d2] }
  | _ => none }
def datagroupsReturnsRow : OpenClaim := { program := "ytnjanpmgonoeeaagreatdoor", sum := "2a6cb0820dd4284e19beb9b87eb966bcc7ce0698f99231431859448ba5b919d9", func := "traveldoc/traveldoclaw15.DatagroupsReturns", spec := "datagroupsReturns", inPlace := ["internal/bytealg.IndexByteString", "internal/bytealg.IndexString", "internal/abi.NoEscape", "internal/bytealg.MakeNoZero", "internal/bytealg.CountString"], unfollowed := true, recurses := true, named := ["traveldoc/datagroups.tags", "traveldoc/dates.lengths", "unicode/utf8.first", "unicode/utf8.acceptRanges", "internal/bytealg.MaxLen", "traveldoc/securityinfo.endings"], apart := false, laid := [("traveldoc/dates.lengths", laid_traveldoc_dates_lengths), ("unicode/utf8.acceptRanges", laid_unicode_utf8_acceptRanges), ("traveldoc/securityinfo.endings", laid_traveldoc_securityinfo_endings), ("traveldoc/datagroups.tags", laid_traveldoc_datagroups_tags), ("unicode/utf8.first", laid_unicode_utf8_first)] }
def DatagroupsReturnsSaid : Prop := datagroupsReturnsRow.holds Tryz.pinned (OpenSpec.ofChange datagroupsReturnsSpec)

/-- ITS FALSE NEIGHBOUR: 'it returns false'. Refute it at one input. -/
def datagroupsReturnsWrong : ChangeSpec := { name := "datagroupsReturns", fn := fun _ => fun
  | [d1, d2] => { results := [.lit (.bool false)], args := [d1, d2] }
  | _ => none }
def DatagroupsReturnsWrongFalsely : Prop := datagroupsReturnsRow.holds Tryz.pinned (OpenSpec.ofChange datagroupsReturnsWrong)

/- THE SECOND FORM. 'bulk': how many values and letters a reading holds, each counted each time it is reached (what is shared counts as often as it is met; a slice's spare places count too). A statement '..UptoSaid' is the law's where the arguments, and the package variables that the reading takes, are together of bulk at most 1048576: NARROWER than '..Said'. Prove '..Said' where nothing that the law and all that it calls make is longer than what came in: it says more and counts as full. Else prove '..UptoSaid'. A law counts once. -/
mutual
def uptoBulk {H : Type} : DataW H → Nat
  | .lit (.string bytes) => bytes.length + 1
  | .lit _ => 1
  | .nil => 1
  | .ptr d => uptoBulk d + 1
  | .slice elems spare => uptoBulkAll elems + uptoBulkAll spare + 1
  | .agg parts => uptoBulkAll parts + 1
  | .iface _ d => uptoBulk d + 1
  | .map entries => uptoBulkEntries entries + 1
  | .held _ => 1
def uptoBulkAll {H : Type} : List (DataW H) → Nat
  | [] => 0
  | d :: r => uptoBulk d + uptoBulkAll r
def uptoBulkEntries {H : Type} : List (Lit × DataW H) → Nat
  | [] => 0
  | x :: r => uptoBulkEntry x + uptoBulkEntries r
def uptoBulkEntry {H : Type} : Lit × DataW H → Nat
  | (.string bytes, d) => bytes.length + uptoBulk d + 1
  | (_, d) => uptoBulk d + 1
 end
def uptoSmall : (H : Type) → List (DataW H) → Bool := fun _ ds => decide (uptoBulkAll ds ≤ 1048576)
def OpenSpec.upto (s : _root_.Go.ChangeSpec) : _root_.Go.OpenSpec := { _root_.Go.OpenSpec.ofChange s with cond := some uptoSmall }

/-- 'traveldoclaw15.DatagroupsForms', WHERE WHAT IT READS IS OF BULK AT MOST 1048576: true; the input reads as it did. -/
def datagroupsFormsUptoRow : OpenClaim := { program := "ytnjanpmgonoeeaagreatdoor", sum := "2a6cb0820dd4284e19beb9b87eb966bcc7ce0698f99231431859448ba5b919d9", func := "traveldoc/traveldoclaw15.DatagroupsForms", spec := "datagroupsForms", recurses := true, named := ["traveldoc/datagroups.tags", "traveldoc/traveldocref15.tags"], apart := false, laid := [("traveldoc/traveldocref15.tags", laid_traveldoc_traveldocref15_tags), ("traveldoc/datagroups.tags", laid_traveldoc_datagroups_tags)], narrowed := true }
def DatagroupsFormsUptoSaid : Prop := datagroupsFormsUptoRow.holds Tryz.pinned (OpenSpec.upto datagroupsFormsSpec)

/-- 'traveldoclaw15.DatagroupsWrites', WHERE WHAT IT READS IS OF BULK AT MOST 1048576: true; the input reads as it did. -/
def datagroupsWritesUptoRow : OpenClaim := { program := "ytnjanpmgonoeeaagreatdoor", sum := "2a6cb0820dd4284e19beb9b87eb966bcc7ce0698f99231431859448ba5b919d9", func := "traveldoc/traveldoclaw15.DatagroupsWrites", spec := "datagroupsWrites", inPlace := ["internal/bytealg.IndexByteString", "internal/bytealg.IndexString", "internal/abi.NoEscape", "internal/bytealg.MakeNoZero", "internal/bytealg.CountString"], unfollowed := true, recurses := true, named := ["traveldoc/datagroups.tags", "traveldoc/dates.lengths", "unicode/utf8.first", "unicode/utf8.acceptRanges", "internal/bytealg.MaxLen", "traveldoc/traveldocref15.tags", "traveldoc/securityinfo.endings"], apart := false, laid := [("traveldoc/dates.lengths", laid_traveldoc_dates_lengths), ("traveldoc/traveldocref15.tags", laid_traveldoc_traveldocref15_tags), ("unicode/utf8.acceptRanges", laid_unicode_utf8_acceptRanges), ("traveldoc/securityinfo.endings", laid_traveldoc_securityinfo_endings), ("traveldoc/datagroups.tags", laid_traveldoc_datagroups_tags), ("unicode/utf8.first", laid_unicode_utf8_first)], narrowed := true }
def DatagroupsWritesUptoSaid : Prop := datagroupsWritesUptoRow.holds Tryz.pinned (OpenSpec.upto datagroupsWritesSpec)

/-- 'traveldoclaw15.DatagroupsOpens', WHERE WHAT IT READS IS OF BULK AT MOST 1048576: true; the input reads as it did. -/
def datagroupsOpensUptoRow : OpenClaim := { program := "ytnjanpmgonoeeaagreatdoor", sum := "2a6cb0820dd4284e19beb9b87eb966bcc7ce0698f99231431859448ba5b919d9", func := "traveldoc/traveldoclaw15.DatagroupsOpens", spec := "datagroupsOpens", inPlace := ["internal/bytealg.IndexByteString", "internal/bytealg.IndexString", "internal/bytealg.CountString", "internal/abi.NoEscape", "internal/bytealg.MakeNoZero"], unfollowed := true, recurses := true, named := ["traveldoc/datagroups.tags", "traveldoc/traveldocref15.tags", "unicode/utf8.first", "unicode/utf8.acceptRanges", "internal/bytealg.MaxLen", "traveldoc/dates.lengths", "traveldoc/securityinfo.endings"], apart := false, laid := [("traveldoc/dates.lengths", laid_traveldoc_dates_lengths), ("traveldoc/traveldocref15.tags", laid_traveldoc_traveldocref15_tags), ("unicode/utf8.acceptRanges", laid_unicode_utf8_acceptRanges), ("traveldoc/securityinfo.endings", laid_traveldoc_securityinfo_endings), ("traveldoc/datagroups.tags", laid_traveldoc_datagroups_tags), ("unicode/utf8.first", laid_unicode_utf8_first)], narrowed := true }
def DatagroupsOpensUptoSaid : Prop := datagroupsOpensUptoRow.holds Tryz.pinned (OpenSpec.upto datagroupsOpensSpec)

/-- 'traveldoclaw15.DatagroupsOpensMade', WHERE WHAT IT READS IS OF BULK AT MOST 1048576: true; the input reads as it did. -/
def datagroupsOpensMadeUptoRow : OpenClaim := { program := "ytnjanpmgonoeeaagreatdoor", sum := "2a6cb0820dd4284e19beb9b87eb966bcc7ce0698f99231431859448ba5b919d9", func := "traveldoc/traveldoclaw15.DatagroupsOpensMade", spec := "datagroupsOpensMade", inPlace := ["internal/bytealg.IndexByteString", "internal/bytealg.IndexString", "internal/bytealg.CountString", "internal/abi.NoEscape", "internal/bytealg.MakeNoZero"], unfollowed := true, recurses := true, named := ["traveldoc/datagroups.tags", "traveldoc/traveldocref15.tags", "unicode/utf8.first", "unicode/utf8.acceptRanges", "internal/bytealg.MaxLen", "traveldoc/dates.lengths", "traveldoc/securityinfo.endings"], apart := false, laid := [("traveldoc/dates.lengths", laid_traveldoc_dates_lengths), ("traveldoc/traveldocref15.tags", laid_traveldoc_traveldocref15_tags), ("unicode/utf8.acceptRanges", laid_unicode_utf8_acceptRanges), ("traveldoc/securityinfo.endings", laid_traveldoc_securityinfo_endings), ("traveldoc/datagroups.tags", laid_traveldoc_datagroups_tags), ("unicode/utf8.first", laid_unicode_utf8_first)], narrowed := true }
def DatagroupsOpensMadeUptoSaid : Prop := datagroupsOpensMadeUptoRow.holds Tryz.pinned (OpenSpec.upto datagroupsOpensMadeSpec)

/-- 'traveldoclaw15.DatagroupsReturns', WHERE WHAT IT READS IS OF BULK AT MOST 1048576: true; the input reads as it did. -/
def datagroupsReturnsUptoRow : OpenClaim := { program := "ytnjanpmgonoeeaagreatdoor", sum := "2a6cb0820dd4284e19beb9b87eb966bcc7ce0698f99231431859448ba5b919d9", func := "traveldoc/traveldoclaw15.DatagroupsReturns", spec := "datagroupsReturns", inPlace := ["internal/bytealg.IndexByteString", "internal/bytealg.IndexString", "internal/abi.NoEscape", "internal/bytealg.MakeNoZero", "internal/bytealg.CountString"], unfollowed := true, recurses := true, named := ["traveldoc/datagroups.tags", "traveldoc/dates.lengths", "unicode/utf8.first", "unicode/utf8.acceptRanges", "internal/bytealg.MaxLen", "traveldoc/securityinfo.endings"], apart := false, laid := [("traveldoc/dates.lengths", laid_traveldoc_dates_lengths), ("unicode/utf8.acceptRanges", laid_unicode_utf8_acceptRanges), ("traveldoc/securityinfo.endings", laid_traveldoc_securityinfo_endings), ("traveldoc/datagroups.tags", laid_traveldoc_datagroups_tags), ("unicode/utf8.first", laid_unicode_utf8_first)], narrowed := true }
def DatagroupsReturnsUptoSaid : Prop := datagroupsReturnsUptoRow.holds Tryz.pinned (OpenSpec.upto datagroupsReturnsSpec)

end Rows
end Go.Proofs.YtnjanpmgonoeeaaGreatDoor
