/-
  NARROWER THAN 'FOR EVERY INPUT', by the rows' own cells (each row's printed sentence says how): IssuanceMakes: laid · IssuanceBegins: laid · IssuanceTrusted: laid.
  DERIVED. THE GIVEN ROWS OF THIS SEAT. 3 by the template 'for every input the law returns true; each argument reads behind the call as it read before'; 0 by the template 'total and deterministic' (their statements: YtelocejblpajcaaGreatDoorTotals.lean).
  GIVEN WITH THE SEED: the statements are not yours to turn. If you find one false, say at which input.
  Laid BY PROGRAM, IN A SANDBOX (cutbox-rows.mjs): the forced cells as the released guide's own fill.sh prints them over the translation 472f8bc61438df97… (all of the seat's roots in one cut). By AI agents, Wed Nov 11 2026. No macro, syntax, notation, axiom, sorry.
-/
import Derived.Test.YtelocejblpajcaaGreatDoorChecked
import GoSem.PinnedTables
import GoSem.Claim
import GoSem.ClaimJoined
import GoSem.ClaimMapViews
import Derived.JoinedTies
import Derived.KernelRfl
namespace Go.Proofs.YtelocejblpajcaaGreatDoor
/- THE CELL 'sum', in the pinned program and in every row, IS THE sha256 OF THE DUMP (.gsa) THAT YtelocejblpajcaaGreatDoorProg.lean LOADS. Nothing in Lean hashes anything: it is a label: what it is worth is what the hold of that sum in a sandbox is worth. -/
noncomputable def Tryz.pinned : Pinned := { name := "ytelocejblpajcaagreatdoor", sum := "472f8bc61438df97a3aefc59477d9eb565081d399d63a0124bf2b74ccdf305a6", checked := Tryz.checked }
namespace Rows
def none {H : Type} : Left H := { results := [], args := [] }

/- WHAT THE LISTED PACKAGE-LEVEL VARIABLES READ AS WHEN THE CALL BEGINS. Each datum BY PROGRAM (the guide's laid-datum.mjs) off the statement by which the dump's own 'gosem.cut.vars' lays the variable. In a bare row this is a premise. The card (YtelocejblpajcaaGreatDoorCards.lean) ties it to the program's text. -/
def laid_traveldoc_dates_lengths {H : Type} : DataW H := .agg [.lit (.int .i64 31), .lit (.int .i64 28), .lit (.int .i64 31), .lit (.int .i64 30), .lit (.int .i64 31), .lit (.int .i64 30), .lit (.int .i64 31), .lit (.int .i64 31), .lit (.int .i64 30), .lit (.int .i64 31), .lit (.int .i64 30), .lit (.int .i64 31)]
def laid_traveldoc_traveldocref04_constants {H : Type} : DataW H := .agg [.lit (.int .u32 1116352408), .lit (.int .u32 1899447441), .lit (.int .u32 3049323471), .lit (.int .u32 3921009573), .lit (.int .u32 961987163), .lit (.int .u32 1508970993), .lit (.int .u32 2453635748), .lit (.int .u32 2870763221), .lit (.int .u32 3624381080), .lit (.int .u32 310598401), .lit (.int .u32 607225278), .lit (.int .u32 1426881987), .lit (.int .u32 1925078388), .lit (.int .u32 2162078206), .lit (.int .u32 2614888103), .lit (.int .u32 3248222580), .lit (.int .u32 3835390401), .lit (.int .u32 4022224774), .lit (.int .u32 264347078), .lit (.int .u32 604807628), .lit (.int .u32 770255983), .lit (.int .u32 1249150122), .lit (.int .u32 1555081692), .lit (.int .u32 1996064986), .lit (.int .u32 2554220882), .lit (.int .u32 2821834349), .lit (.int .u32 2952996808), .lit (.int .u32 3210313671), .lit (.int .u32 3336571891), .lit (.int .u32 3584528711), .lit (.int .u32 113926993), .lit (.int .u32 338241895), .lit (.int .u32 666307205), .lit (.int .u32 773529912), .lit (.int .u32 1294757372), .lit (.int .u32 1396182291), .lit (.int .u32 1695183700), .lit (.int .u32 1986661051), .lit (.int .u32 2177026350), .lit (.int .u32 2456956037), .lit (.int .u32 2730485921), .lit (.int .u32 2820302411), .lit (.int .u32 3259730800), .lit (.int .u32 3345764771), .lit (.int .u32 3516065817), .lit (.int .u32 3600352804), .lit (.int .u32 4094571909), .lit (.int .u32 275423344), .lit (.int .u32 430227734), .lit (.int .u32 506948616), .lit (.int .u32 659060556), .lit (.int .u32 883997877), .lit (.int .u32 958139571), .lit (.int .u32 1322822218), .lit (.int .u32 1537002063), .lit (.int .u32 1747873779), .lit (.int .u32 1955562222), .lit (.int .u32 2024104815), .lit (.int .u32 2227730452), .lit (.int .u32 2361852424), .lit (.int .u32 2428436474), .lit (.int .u32 2756734187), .lit (.int .u32 3204031479), .lit (.int .u32 3329325298)]
def laid_traveldoc_traveldocref15_tags {H : Type} : DataW H := .agg [.lit (.int .i64 97), .lit (.int .i64 117), .lit (.int .i64 99), .lit (.int .i64 118), .lit (.int .i64 101), .lit (.int .i64 102), .lit (.int .i64 103), .lit (.int .i64 104), .lit (.int .i64 105), .lit (.int .i64 106), .lit (.int .i64 107), .lit (.int .i64 108), .lit (.int .i64 109), .lit (.int .i64 110), .lit (.int .i64 111), .lit (.int .i64 112), .lit (.int .i64 96), .lit (.int .i64 119)]
def laid_unicode_utf8_acceptRanges {H : Type} : DataW H := .agg [.agg [.lit (.int .u8 128), .lit (.int .u8 191)], .agg [.lit (.int .u8 160), .lit (.int .u8 191)], .agg [.lit (.int .u8 128), .lit (.int .u8 159)], .agg [.lit (.int .u8 144), .lit (.int .u8 191)], .agg [.lit (.int .u8 128), .lit (.int .u8 143)], .agg [.lit (.int .u8 0), .lit (.int .u8 0)], .agg [.lit (.int .u8 0), .lit (.int .u8 0)], .agg [.lit (.int .u8 0), .lit (.int .u8 0)], .agg [.lit (.int .u8 0), .lit (.int .u8 0)], .agg [.lit (.int .u8 0), .lit (.int .u8 0)], .agg [.lit (.int .u8 0), .lit (.int .u8 0)], .agg [.lit (.int .u8 0), .lit (.int .u8 0)], .agg [.lit (.int .u8 0), .lit (.int .u8 0)], .agg [.lit (.int .u8 0), .lit (.int .u8 0)], .agg [.lit (.int .u8 0), .lit (.int .u8 0)], .agg [.lit (.int .u8 0), .lit (.int .u8 0)]]
def laid_traveldoc_digest_constants {H : Type} : DataW H := .agg [.lit (.int .u32 1116352408), .lit (.int .u32 1899447441), .lit (.int .u32 3049323471), .lit (.int .u32 3921009573), .lit (.int .u32 961987163), .lit (.int .u32 1508970993), .lit (.int .u32 2453635748), .lit (.int .u32 2870763221), .lit (.int .u32 3624381080), .lit (.int .u32 310598401), .lit (.int .u32 607225278), .lit (.int .u32 1426881987), .lit (.int .u32 1925078388), .lit (.int .u32 2162078206), .lit (.int .u32 2614888103), .lit (.int .u32 3248222580), .lit (.int .u32 3835390401), .lit (.int .u32 4022224774), .lit (.int .u32 264347078), .lit (.int .u32 604807628), .lit (.int .u32 770255983), .lit (.int .u32 1249150122), .lit (.int .u32 1555081692), .lit (.int .u32 1996064986), .lit (.int .u32 2554220882), .lit (.int .u32 2821834349), .lit (.int .u32 2952996808), .lit (.int .u32 3210313671), .lit (.int .u32 3336571891), .lit (.int .u32 3584528711), .lit (.int .u32 113926993), .lit (.int .u32 338241895), .lit (.int .u32 666307205), .lit (.int .u32 773529912), .lit (.int .u32 1294757372), .lit (.int .u32 1396182291), .lit (.int .u32 1695183700), .lit (.int .u32 1986661051), .lit (.int .u32 2177026350), .lit (.int .u32 2456956037), .lit (.int .u32 2730485921), .lit (.int .u32 2820302411), .lit (.int .u32 3259730800), .lit (.int .u32 3345764771), .lit (.int .u32 3516065817), .lit (.int .u32 3600352804), .lit (.int .u32 4094571909), .lit (.int .u32 275423344), .lit (.int .u32 430227734), .lit (.int .u32 506948616), .lit (.int .u32 659060556), .lit (.int .u32 883997877), .lit (.int .u32 958139571), .lit (.int .u32 1322822218), .lit (.int .u32 1537002063), .lit (.int .u32 1747873779), .lit (.int .u32 1955562222), .lit (.int .u32 2024104815), .lit (.int .u32 2227730452), .lit (.int .u32 2361852424), .lit (.int .u32 2428436474), .lit (.int .u32 2756734187), .lit (.int .u32 3204031479), .lit (.int .u32 3329325298)]
def laid_traveldoc_securityinfo_endings {H : Type} : DataW H := .agg [.agg [.lit (.int .u8 0), .lit (.int .u8 0)], .agg [.lit (.int .u8 0), .lit (.int .u8 0)], .agg [.lit (.int .u8 4), .lit (.int .u8 1)], .agg [.lit (.int .u8 4), .lit (.int .u8 2)], .agg [.lit (.int .u8 3), .lit (.int .u8 1)], .agg [.lit (.int .u8 2), .lit (.int .u8 1)], .agg [.lit (.int .u8 5), .lit (.int .u8 1)]]
def laid_traveldoc_datagroups_tags {H : Type} : DataW H := .agg [.lit (.int .i64 97), .lit (.int .i64 117), .lit (.int .i64 99), .lit (.int .i64 118), .lit (.int .i64 101), .lit (.int .i64 102), .lit (.int .i64 103), .lit (.int .i64 104), .lit (.int .i64 105), .lit (.int .i64 106), .lit (.int .i64 107), .lit (.int .i64 108), .lit (.int .i64 109), .lit (.int .i64 110), .lit (.int .i64 111), .lit (.int .i64 112), .lit (.int .i64 96), .lit (.int .i64 119)]
/-- One of Go's own tables, pinned by name: the form's constant. -/
def laid_unicode_utf8_first : DataW Unit := Go.Pinned.utf8First

/-- 'traveldoclaw39.IssuanceMakes': WHATEVER THE INPUT: true; the input reads as it did. -/
def issuanceMakesSpec : ChangeSpec := { name := "issuanceMakes", fn := fun _ => fun
  | [d1, d2, d3, d4, d5] => { results := [.lit (.bool true)], args := [d1, d2, d3, d4, d5] }
  | _ => none }
def issuanceMakesRow : OpenClaim := { program := "ytelocejblpajcaagreatdoor", sum := "472f8bc61438df97a3aefc59477d9eb565081d399d63a0124bf2b74ccdf305a6", func := "traveldoc/traveldoclaw39.IssuanceMakes", spec := "issuanceMakes", inPlace := ["internal/bytealg.IndexByteString", "internal/bytealg.IndexString", "internal/abi.NoEscape", "internal/bytealg.MakeNoZero", "internal/bytealg.CountString", "slices.overlaps[traveldoc/api.GroupHash]"], unfollowed := true, recurses := true, named := ["traveldoc/digest.constants", "traveldoc/dates.lengths", "unicode/utf8.first", "unicode/utf8.acceptRanges", "internal/bytealg.MaxLen", "traveldoc/datagroups.tags", "traveldoc/securityinfo.endings", "traveldoc/traveldocref04.constants", "traveldoc/traveldocref15.tags"], apart := false, laid := [("traveldoc/dates.lengths", laid_traveldoc_dates_lengths), ("traveldoc/traveldocref04.constants", laid_traveldoc_traveldocref04_constants), ("traveldoc/traveldocref15.tags", laid_traveldoc_traveldocref15_tags), ("unicode/utf8.acceptRanges", laid_unicode_utf8_acceptRanges), ("traveldoc/digest.constants", laid_traveldoc_digest_constants), ("traveldoc/securityinfo.endings", laid_traveldoc_securityinfo_endings), ("traveldoc/datagroups.tags", laid_traveldoc_datagroups_tags), ("unicode/utf8.first", laid_unicode_utf8_first)] }
def IssuanceMakesSaid : Prop := issuanceMakesRow.holds Tryz.pinned (OpenSpec.ofChange issuanceMakesSpec)

/-- ITS FALSE NEIGHBOUR: 'it returns false'. Refute it at one input. -/
def issuanceMakesWrong : ChangeSpec := { name := "issuanceMakes", fn := fun _ => fun
  | [d1, d2, d3, d4, d5] => { results := [.lit (.bool false)], args := [d1, d2, d3, d4, d5] }
  | _ => none }
def IssuanceMakesWrongFalsely : Prop := issuanceMakesRow.holds Tryz.pinned (OpenSpec.ofChange issuanceMakesWrong)

/-- 'traveldoclaw39.IssuanceBegins': WHATEVER THE INPUT: true; the input reads as it did. -/
def issuanceBeginsSpec : ChangeSpec := { name := "issuanceBegins", fn := fun _ => fun
  | [d1, d2, d3, d4] => { results := [.lit (.bool true)], args := [d1, d2, d3, d4] }
  | _ => none }
def issuanceBeginsRow : OpenClaim := { program := "ytelocejblpajcaagreatdoor", sum := "472f8bc61438df97a3aefc59477d9eb565081d399d63a0124bf2b74ccdf305a6", func := "traveldoc/traveldoclaw39.IssuanceBegins", spec := "issuanceBegins", inPlace := ["internal/bytealg.IndexByteString", "internal/bytealg.IndexString", "internal/abi.NoEscape", "internal/bytealg.MakeNoZero", "internal/bytealg.CountString", "slices.overlaps[traveldoc/api.GroupHash]"], unfollowed := true, recurses := true, named := ["traveldoc/digest.constants", "traveldoc/dates.lengths", "unicode/utf8.first", "unicode/utf8.acceptRanges", "internal/bytealg.MaxLen", "traveldoc/datagroups.tags", "traveldoc/securityinfo.endings", "traveldoc/traveldocref04.constants"], apart := false, laid := [("traveldoc/dates.lengths", laid_traveldoc_dates_lengths), ("traveldoc/traveldocref04.constants", laid_traveldoc_traveldocref04_constants), ("unicode/utf8.acceptRanges", laid_unicode_utf8_acceptRanges), ("traveldoc/digest.constants", laid_traveldoc_digest_constants), ("traveldoc/securityinfo.endings", laid_traveldoc_securityinfo_endings), ("traveldoc/datagroups.tags", laid_traveldoc_datagroups_tags), ("unicode/utf8.first", laid_unicode_utf8_first)] }
def IssuanceBeginsSaid : Prop := issuanceBeginsRow.holds Tryz.pinned (OpenSpec.ofChange issuanceBeginsSpec)

/-- ITS FALSE NEIGHBOUR: 'it returns false'. Refute it at one input. -/
def issuanceBeginsWrong : ChangeSpec := { name := "issuanceBegins", fn := fun _ => fun
  | [d1, d2, d3, d4] => { results := [.lit (.bool false)], args := [d1, d2, d3, d4] }
  | _ => none }
def IssuanceBeginsWrongFalsely : Prop := issuanceBeginsRow.holds Tryz.pinned (OpenSpec.ofChange issuanceBeginsWrong)

/-- 'traveldoclaw39.IssuanceTrusted': WHATEVER THE INPUT: true; the input reads as it did. -/
def issuanceTrustedSpec : ChangeSpec := { name := "issuanceTrusted", fn := fun _ => fun
  | [d] => { results := [.lit (.bool true)], args := [d] }
  | _ => none }
def issuanceTrustedRow : OpenClaim := { program := "ytelocejblpajcaagreatdoor", sum := "472f8bc61438df97a3aefc59477d9eb565081d399d63a0124bf2b74ccdf305a6", func := "traveldoc/traveldoclaw39.IssuanceTrusted", spec := "issuanceTrusted", inPlace := ["internal/bytealg.IndexByteString", "internal/bytealg.IndexString", "internal/abi.NoEscape", "internal/bytealg.MakeNoZero", "internal/bytealg.CountString", "slices.overlaps[traveldoc/api.GroupHash]"], unfollowed := true, recurses := true, named := ["traveldoc/digest.constants", "traveldoc/dates.lengths", "unicode/utf8.first", "unicode/utf8.acceptRanges", "internal/bytealg.MaxLen", "traveldoc/datagroups.tags", "traveldoc/securityinfo.endings", "traveldoc/traveldocref04.constants"], apart := false, laid := [("traveldoc/dates.lengths", laid_traveldoc_dates_lengths), ("traveldoc/traveldocref04.constants", laid_traveldoc_traveldocref04_constants), ("unicode/utf8.acceptRanges", laid_unicode_utf8_acceptRanges), ("traveldoc/digest.constants", laid_traveldoc_digest_constants), ("traveldoc/securityinfo.endings", laid_traveldoc_securityinfo_endings), ("traveldoc/datagroups.tags", laid_traveldoc_datagroups_tags), ("unicode/utf8.first", laid_unicode_utf8_first)] }
def IssuanceTrustedSaid : Prop := issuanceTrustedRow.holds Tryz.pinned (OpenSpec.ofChange issuanceTrustedSpec)

/-- ITS FALSE NEIGHBOUR: 'it returns false'. Refute it at one input. -/
def issuanceTrustedWrong : ChangeSpec := { name := "issuanceTrusted", fn := fun _ => fun
  | [d] => { results := [.lit (.bool false)], args := [d] }
  | _ => none }
def IssuanceTrustedWrongFalsely : Prop := issuanceTrustedRow.holds Tryz.pinned (OpenSpec.ofChange issuanceTrustedWrong)

/- THE SECOND FORM. 'bulk': how many values and letters a reading holds, each counted each time it is reached (what is shared counts as often as it is met; a slice's spare places count too). A statement '..UptoSaid' is the law's where the arguments, and the package variables that the reading takes, are together of bulk at most 1048576: NARROWER than '..Said'. Prove '..Said' where nothing that the law and all that it calls make is longer than what came in: it says more and counts as full. Else prove '..UptoSaid'. A law counts once. -/
mutual
def uptoBulk {H : Type} : DataW H → Nat
  | .lit (.string bytes) => bytes.length + 1
  | .lit _ => 1
  | .nil => 1
  | .ptr d => uptoBulk d + 1
  | .slice elems spare => uptoBulkAll elems + uptoBulkAll spare + 1
  | .agg parts => uptoBulkAll parts + 1
  | .iface _ d => uptoBulk d + 1
  | .map entries => uptoBulkEntries entries + 1
  | .held _ => 1
def uptoBulkAll {H : Type} : List (DataW H) → Nat
  | [] => 0
  | d :: r => uptoBulk d + uptoBulkAll r
def uptoBulkEntries {H : Type} : List (Lit × DataW H) → Nat
  | [] => 0
  | x :: r => uptoBulkEntry x + uptoBulkEntries r
def uptoBulkEntry {H : Type} : Lit × DataW H → Nat
  | (.string bytes, d) => bytes.length + uptoBulk d + 1
  | (_, d) => uptoBulk d + 1
 end
def uptoSmall : (H : Type) → List (DataW H) → Bool := fun _ ds => decide (uptoBulkAll ds ≤ 1048576)
def OpenSpec.upto (s : _root_.Go.ChangeSpec) : _root_.Go.OpenSpec := { _root_.Go.OpenSpec.ofChange s with cond := some uptoSmall }

/-- 'traveldoclaw39.IssuanceMakes', WHERE WHAT IT READS IS OF BULK AT MOST 1048576: true; the input reads as it did. -/
def issuanceMakesUptoRow : OpenClaim := { program := "ytelocejblpajcaagreatdoor", sum := "472f8bc61438df97a3aefc59477d9eb565081d399d63a0124bf2b74ccdf305a6", func := "traveldoc/traveldoclaw39.IssuanceMakes", spec := "issuanceMakes", inPlace := ["internal/bytealg.IndexByteString", "internal/bytealg.IndexString", "internal/abi.NoEscape", "internal/bytealg.MakeNoZero", "internal/bytealg.CountString", "slices.overlaps[traveldoc/api.GroupHash]"], unfollowed := true, recurses := true, named := ["traveldoc/digest.constants", "traveldoc/dates.lengths", "unicode/utf8.first", "unicode/utf8.acceptRanges", "internal/bytealg.MaxLen", "traveldoc/datagroups.tags", "traveldoc/securityinfo.endings", "traveldoc/traveldocref04.constants", "traveldoc/traveldocref15.tags"], apart := false, laid := [("traveldoc/dates.lengths", laid_traveldoc_dates_lengths), ("traveldoc/traveldocref04.constants", laid_traveldoc_traveldocref04_constants), ("traveldoc/traveldocref15.tags", laid_traveldoc_traveldocref15_tags), ("unicode/utf8.acceptRanges", laid_unicode_utf8_acceptRanges), ("traveldoc/digest.constants", laid_traveldoc_digest_constants), ("traveldoc/securityinfo.endings", laid_traveldoc_securityinfo_endings), ("traveldoc/datagroups.tags", laid_traveldoc_datagroups_tags), ("unicode/utf8.first", laid_unicode_utf8_first)], narrowed := true }
def IssuanceMakesUptoSaid : Prop := issuanceMakesUptoRow.holds Tryz.pinned (OpenSpec.upto issuanceMakesSpec)

/-- 'traveldoclaw39.IssuanceBegins', WHERE WHAT IT READS IS OF BULK AT MOST 1048576: true; the input reads as it did. -/
def issuanceBeginsUptoRow : OpenClaim := { program := "ytelocejblpajcaagreatdoor", sum := "472f8bc61438df97a3aefc59477d9eb565081d399d63a0124bf2b74ccdf305a6", func := "traveldoc/traveldoclaw39.IssuanceBegins", spec := "issuanceBegins", inPlace := ["internal/bytealg.IndexByteString", "internal/bytealg.IndexString", "internal/abi.NoEscape", "internal/bytealg.MakeNoZero", "internal/bytealg.CountString", "slices.overlaps[traveldoc/api.GroupHash]"], unfollowed := true, recurses := true, named := ["traveldoc/digest.constants", "traveldoc/dates.lengths", "unicode/utf8.first", "unicode/utf8.acceptRanges", "internal/bytealg.MaxLen", "traveldoc/datagroups.tags", "traveldoc/securityinfo.endings", "traveldoc/traveldocref04.constants"], apart := false, laid := [("traveldoc/dates.lengths", laid_traveldoc_dates_lengths), ("traveldoc/traveldocref04.constants", laid_traveldoc_traveldocref04_constants), ("unicode/utf8.acceptRanges", laid_unicode_utf8_acceptRanges), ("traveldoc/digest.constants", laid_traveldoc_digest_constants), ("traveldoc/securityinfo.endings", laid_traveldoc_securityinfo_endings), ("traveldoc/datagroups.tags", laid_traveldoc_datagroups_tags), ("unicode/utf8.first", laid_unicode_utf8_first)], narrowed := true }
def IssuanceBeginsUptoSaid : Prop := issuanceBeginsUptoRow.holds Tryz.pinned (OpenSpec.upto issuanceBeginsSpec)

/-- 'traveldoclaw39.IssuanceTrusted', WHERE WHAT IT READS IS OF BULK AT MOST 1048576: true; the input reads as it did. -/
def issuanceTrustedUptoRow : OpenClaim := { program := "ytelocejblpajcaagreatdoor", sum := "472f8bc61438df97a3aefc59477d9eb565081d399d63a0124bf2b74ccdf305a6", func := "traveldoc/traveldoclaw39.IssuanceTrusted", spec := "issuanceTrusted", inPlace := ["internal/bytealg.IndexByteString", "internal/bytealg.IndexString", "internal/abi.NoEscape", "internal/bytealg.MakeNoZero", "internal/bytealg.CountString", "slices.overlaps[traveldoc/api.GroupHash]"], unfollowed := true, recurses := true, named := ["traveldoc/digest.constants", "traveldoc/dates.lengths", "unicode/utf8.first", "unicode/utf8.acceptRanges", "internal/bytealg.MaxLen", "traveldoc/datagroups.tags", "traveldoc/securityinfo.endings", "traveldoc/traveldocref04.constants"], apart := false, laid := [("traveldoc/dates.lengths", laid_traveldoc_dates_lengths), ("traveldoc/traveldocref04.constants", laid_traveldoc_traveldocref04_constants), ("unicode/utf8.acceptRanges", laid_unicode_utf8_acceptRanges), ("traveldoc/digest.constants", laid_traveldoc_digest_constants), ("traveldoc/securityinfo.endings", laid_traveldoc_securityinfo_endings), ("traveldoc/datagroups.tags", laid_traveldoc_datagroups_tags), ("unicode/utf8.first", laid_unicode_utf8_first)], narrowed := true }
def IssuanceTrustedUptoSaid : Prop := issuanceTrustedUptoRow.holds Tryz.pinned (OpenSpec.upto issuanceTrustedSpec)

end Rows
end Go.Proofs.YtelocejblpajcaaGreatDoor
