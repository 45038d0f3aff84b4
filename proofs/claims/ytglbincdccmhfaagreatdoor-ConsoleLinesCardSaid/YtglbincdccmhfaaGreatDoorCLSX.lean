/- The tie of ConsoleLines: the given variables are laid by the program's own initialiser. Printed by tools/gen_sx.py. -/
import Derived.Test.YtglbincdccmhfaaGreatDoorRows
import Derived.Test.YtglbincdccmhfaaGreatDoorCLSR
set_option linter.unusedVariables false
set_option linter.unusedSimpArgs false
set_option maxRecDepth 100000
namespace Go.Proofs.YtglbincdccmhfaaGreatDoor
open Go Tdoc
theorem qXv:Tryz.prog.worded (varsWordLater true)=true:=qGo (by kernel_rfl)
theorem vBe:Tryz.prog.worded (varsWordLater !true)=false:=qGo (by kernel_rfl)
theorem vBd:Tryz.prog.worded rootWordLater=true:=qGo (by kernel_rfl)
theorem vFp:Tryz.prog.funcNamed "gosem.cut.vars" = some 809:=funcNamed_hits (by kernel_rfl)
theorem vFd:Tryz.prog.kindOfLater "unicode/utf8.acceptRanges" = some .data:=by kernel_rfl
theorem vFc:Tryz.prog.kindOfLater "internal/strconv.uint64pow10" = some .data:=by kernel_rfl
theorem vFb:Tryz.prog.kindOfLater "math/bits.deBruijn32tab" = some .data:=by kernel_rfl
theorem vFa:Tryz.prog.kindOfLater "math/bits.deBruijn64tab" = some .data:=by kernel_rfl
theorem vEz:Tryz.prog.kindOfLater "strconv.ErrSyntax" = some .sentinel:=by kernel_rfl
theorem vEy:Tryz.prog.kindOfLater "strconv.ErrRange" = some .sentinel:=by kernel_rfl
theorem vEx:Tryz.prog.kindOfLater "traveldoc/digest.constants" = some .data:=by kernel_rfl
theorem vEw:Tryz.prog.kindOfLater "traveldoc/dates.lengths" = some .data:=by kernel_rfl
theorem vEv:Tryz.prog.kindOfLater "traveldoc/datagroups.tags" = some .data:=by kernel_rfl
theorem vEu:Tryz.prog.kindOfLater "traveldoc/securityinfo.endings" = some .data:=by kernel_rfl
theorem vCc:([("unicode/utf8.acceptRanges",Rows.laid_unicode_utf8_acceptRanges),("internal/strconv.uint64pow10",Rows.laid_internal_strconv_uint64pow10),("math/bits.deBruijn32tab",Rows.laid_math_bits_deBruijn32tab),("math/bits.deBruijn64tab",Rows.laid_math_bits_deBruijn64tab),("strconv.ErrSyntax",Rows.laid_strconv_ErrSyntax),("strconv.ErrRange",Rows.laid_strconv_ErrRange),("traveldoc/digest.constants",Rows.laid_traveldoc_digest_constants),("traveldoc/dates.lengths",Rows.laid_traveldoc_dates_lengths),("traveldoc/datagroups.tags",Rows.laid_traveldoc_datagroups_tags),("traveldoc/securityinfo.endings",Rows.laid_traveldoc_securityinfo_endings)]:List (String×DataW Unit)).map (fun x=>Tryz.prog.kindOfLater x.1)=([.data,.data,.data,.data,.sentinel,.sentinel,.data,.data,.data,.data]:List LaidKind).map some:=by
 simp only [List.map_cons,List.map_nil,vFd,vFc,vFb,vFa,vEz,vEy,vEx,vEw,vEv,vEu]
theorem vDz:varsNamedLaterB Tryz.prog 809 [("unicode/utf8.acceptRanges",Rows.laid_unicode_utf8_acceptRanges),("internal/strconv.uint64pow10",Rows.laid_internal_strconv_uint64pow10),("math/bits.deBruijn32tab",Rows.laid_math_bits_deBruijn32tab),("math/bits.deBruijn64tab",Rows.laid_math_bits_deBruijn64tab),("strconv.ErrSyntax",Rows.laid_strconv_ErrSyntax),("strconv.ErrRange",Rows.laid_strconv_ErrRange),("traveldoc/digest.constants",Rows.laid_traveldoc_digest_constants),("traveldoc/dates.lengths",Rows.laid_traveldoc_dates_lengths),("traveldoc/datagroups.tags",Rows.laid_traveldoc_datagroups_tags),("traveldoc/securityinfo.endings",Rows.laid_traveldoc_securityinfo_endings)]=true:=by kernel_rfl
theorem tie:Tryz.prog.laidByTextLater [("unicode/utf8.acceptRanges",Rows.laid_unicode_utf8_acceptRanges),("internal/strconv.uint64pow10",Rows.laid_internal_strconv_uint64pow10),("math/bits.deBruijn32tab",Rows.laid_math_bits_deBruijn32tab),("math/bits.deBruijn64tab",Rows.laid_math_bits_deBruijn64tab),("strconv.ErrSyntax",Rows.laid_strconv_ErrSyntax),("strconv.ErrRange",Rows.laid_strconv_ErrRange),("traveldoc/digest.constants",Rows.laid_traveldoc_digest_constants),("traveldoc/dates.lengths",Rows.laid_traveldoc_dates_lengths),("traveldoc/datagroups.tags",Rows.laid_traveldoc_datagroups_tags),("traveldoc/securityinfo.endings",Rows.laid_traveldoc_securityinfo_endings)] [.data,.data,.data,.data,.sentinel,.sentinel,.data,.data,.data,.data] true :=
 vGv 97 8 65 809 qXv vBe vBd vCc vFp vDz (fun _ _=>by kernel_rfl)
theorem qSg:Tryz.pinned.checked.prog.headLifts.contains "ownunsafe" = false:=by kernel_rfl
theorem vBm:Tryz.pinned.checked.prog.pinnedFits "unicode/utf8.first" = true:=by kernel_rfl
theorem fits1:Tryz.pinned.checked.prog.listedFits [("unicode/utf8.first",Rows.laid_unicode_utf8_first),("unicode/utf8.acceptRanges",Rows.laid_unicode_utf8_acceptRanges),("internal/strconv.uint64pow10",Rows.laid_internal_strconv_uint64pow10),("math/bits.deBruijn32tab",Rows.laid_math_bits_deBruijn32tab),("math/bits.deBruijn64tab",Rows.laid_math_bits_deBruijn64tab),("strconv.ErrSyntax",Rows.laid_strconv_ErrSyntax),("strconv.ErrRange",Rows.laid_strconv_ErrRange),("traveldoc/digest.constants",Rows.laid_traveldoc_digest_constants),("traveldoc/dates.lengths",Rows.laid_traveldoc_dates_lengths),("traveldoc/datagroups.tags",Rows.laid_traveldoc_datagroups_tags),("traveldoc/securityinfo.endings",Rows.laid_traveldoc_securityinfo_endings)]=true:=by
 unfold Program.listedFits
 rw [qSg]
 kernel_rfl
theorem consoleLines_row_tie:Rows.consoleLinesRow.laidByTextAt .later Tryz.pinned [.pinned,.data,.data,.data,.data,.sentinel,.sentinel,.data,.data,.data,.data] true :=
 OpenClaim.laidByTextAt_pinned rfl rfl tie rfl rfl rfl rfl (fun y hy _e=>by
  simp only [Rows.consoleLinesRow,List.zip_cons_cons,List.zip_nil_right,List.mem_cons,List.mem_nil_iff,or_false] at hy
  rcases hy with rfl | rfl | rfl | rfl | rfl | rfl | rfl | rfl | rfl | rfl | rfl
  ·exact ⟨vBm,by kernel_rfl⟩
  ·cases _e
  ·cases _e
  ·cases _e
  ·cases _e
  ·cases _e
  ·cases _e
  ·cases _e
  ·cases _e
  ·cases _e
  ·cases _e) fits1
end Go.Proofs.YtglbincdccmhfaaGreatDoor
