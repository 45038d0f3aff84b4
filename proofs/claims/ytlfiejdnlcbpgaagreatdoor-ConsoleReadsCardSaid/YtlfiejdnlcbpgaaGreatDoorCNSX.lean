/- The tie of ConsoleReads: the given variables are laid by the program's own initialiser. Printed by tools/gen_sx.py. -/
import Derived.Test.YtlfiejdnlcbpgaaGreatDoorRows
import Derived.Test.YtlfiejdnlcbpgaaGreatDoorCNSR
set_option linter.unusedVariables false
set_option linter.unusedSimpArgs false
set_option maxRecDepth 100000
namespace Go.Proofs.YtlfiejdnlcbpgaaGreatDoor
open Go Tdoc
theorem qYf:Tryz.prog.worded (varsWordLater true)=true:=qHa (by kernel_rfl)
theorem vBk:Tryz.prog.worded (varsWordLater !true)=false:=qHa (by kernel_rfl)
theorem vBj:Tryz.prog.worded rootWordLater=true:=qHa (by kernel_rfl)
theorem vFv:Tryz.prog.funcNamed "gosem.cut.vars" = some 815:=funcNamed_hits (by kernel_rfl)
theorem vFk:Tryz.prog.kindOfLater "unicode/utf8.acceptRanges" = some .data:=by kernel_rfl
theorem vFj:Tryz.prog.kindOfLater "internal/strconv.uint64pow10" = some .data:=by kernel_rfl
theorem vFi:Tryz.prog.kindOfLater "math/bits.deBruijn32tab" = some .data:=by kernel_rfl
theorem vFh:Tryz.prog.kindOfLater "math/bits.deBruijn64tab" = some .data:=by kernel_rfl
theorem vFg:Tryz.prog.kindOfLater "strconv.ErrSyntax" = some .sentinel:=by kernel_rfl
theorem vFf:Tryz.prog.kindOfLater "strconv.ErrRange" = some .sentinel:=by kernel_rfl
theorem vFe:Tryz.prog.kindOfLater "traveldoc/digest.constants" = some .data:=by kernel_rfl
theorem vFd:Tryz.prog.kindOfLater "traveldoc/dates.lengths" = some .data:=by kernel_rfl
theorem vFc:Tryz.prog.kindOfLater "traveldoc/datagroups.tags" = some .data:=by kernel_rfl
theorem vFb:Tryz.prog.kindOfLater "traveldoc/securityinfo.endings" = some .data:=by kernel_rfl
theorem vCk:([("unicode/utf8.acceptRanges",Rows.laid_unicode_utf8_acceptRanges),("internal/strconv.uint64pow10",Rows.laid_internal_strconv_uint64pow10),("math/bits.deBruijn32tab",Rows.laid_math_bits_deBruijn32tab),("math/bits.deBruijn64tab",Rows.laid_math_bits_deBruijn64tab),("strconv.ErrSyntax",Rows.laid_strconv_ErrSyntax),("strconv.ErrRange",Rows.laid_strconv_ErrRange),("traveldoc/digest.constants",Rows.laid_traveldoc_digest_constants),("traveldoc/dates.lengths",Rows.laid_traveldoc_dates_lengths),("traveldoc/datagroups.tags",Rows.laid_traveldoc_datagroups_tags),("traveldoc/securityinfo.endings",Rows.laid_traveldoc_securityinfo_endings)]:List (String×DataW Unit)).map (fun x=>Tryz.prog.kindOfLater x.1)=([.data,.data,.data,.data,.sentinel,.sentinel,.data,.data,.data,.data]:List LaidKind).map some:=by
 simp only [List.map_cons,List.map_nil,vFk,vFj,vFi,vFh,vFg,vFf,vFe,vFd,vFc,vFb]
theorem vEh:varsNamedLaterB Tryz.prog 815 [("unicode/utf8.acceptRanges",Rows.laid_unicode_utf8_acceptRanges),("internal/strconv.uint64pow10",Rows.laid_internal_strconv_uint64pow10),("math/bits.deBruijn32tab",Rows.laid_math_bits_deBruijn32tab),("math/bits.deBruijn64tab",Rows.laid_math_bits_deBruijn64tab),("strconv.ErrSyntax",Rows.laid_strconv_ErrSyntax),("strconv.ErrRange",Rows.laid_strconv_ErrRange),("traveldoc/digest.constants",Rows.laid_traveldoc_digest_constants),("traveldoc/dates.lengths",Rows.laid_traveldoc_dates_lengths),("traveldoc/datagroups.tags",Rows.laid_traveldoc_datagroups_tags),("traveldoc/securityinfo.endings",Rows.laid_traveldoc_securityinfo_endings)]=true:=by kernel_rfl
theorem tie:Tryz.prog.laidByTextLater [("unicode/utf8.acceptRanges",Rows.laid_unicode_utf8_acceptRanges),("internal/strconv.uint64pow10",Rows.laid_internal_strconv_uint64pow10),("math/bits.deBruijn32tab",Rows.laid_math_bits_deBruijn32tab),("math/bits.deBruijn64tab",Rows.laid_math_bits_deBruijn64tab),("strconv.ErrSyntax",Rows.laid_strconv_ErrSyntax),("strconv.ErrRange",Rows.laid_strconv_ErrRange),("traveldoc/digest.constants",Rows.laid_traveldoc_digest_constants),("traveldoc/dates.lengths",Rows.laid_traveldoc_dates_lengths),("traveldoc/datagroups.tags",Rows.laid_traveldoc_datagroups_tags),("traveldoc/securityinfo.endings",Rows.laid_traveldoc_securityinfo_endings)] [.data,.data,.data,.data,.sentinel,.sentinel,.data,.data,.data,.data] true :=
 vHb 97 8 65 815 qYf vBk vBj vCk vFv vEh (fun _ _=>by kernel_rfl)
theorem qSl:Tryz.pinned.checked.prog.headLifts.contains "ownunsafe" = false:=by kernel_rfl
theorem vBs:Tryz.pinned.checked.prog.pinnedFits "unicode/utf8.first" = true:=by kernel_rfl
theorem fits1:Tryz.pinned.checked.prog.listedFits [("unicode/utf8.first",Rows.laid_unicode_utf8_first),("unicode/utf8.acceptRanges",Rows.laid_unicode_utf8_acceptRanges),("internal/strconv.uint64pow10",Rows.laid_internal_strconv_uint64pow10),("math/bits.deBruijn32tab",Rows.laid_math_bits_deBruijn32tab),("math/bits.deBruijn64tab",Rows.laid_math_bits_deBruijn64tab),("strconv.ErrSyntax",Rows.laid_strconv_ErrSyntax),("strconv.ErrRange",Rows.laid_strconv_ErrRange),("traveldoc/digest.constants",Rows.laid_traveldoc_digest_constants),("traveldoc/dates.lengths",Rows.laid_traveldoc_dates_lengths),("traveldoc/datagroups.tags",Rows.laid_traveldoc_datagroups_tags),("traveldoc/securityinfo.endings",Rows.laid_traveldoc_securityinfo_endings)]=true:=by
 unfold Program.listedFits
 rw [qSl]
 kernel_rfl
theorem consoleReads_row_tie:Rows.consoleReadsRow.laidByTextAt .later Tryz.pinned [.pinned,.data,.data,.data,.data,.sentinel,.sentinel,.data,.data,.data,.data] true :=
 OpenClaim.laidByTextAt_pinned rfl rfl tie rfl rfl rfl rfl (fun y hy _e=>by
  simp only [Rows.consoleReadsRow,List.zip_cons_cons,List.zip_nil_right,List.mem_cons,List.mem_nil_iff,or_false] at hy
  rcases hy with rfl | rfl | rfl | rfl | rfl | rfl | rfl | rfl | rfl | rfl | rfl
  ·exact ⟨vBs,by kernel_rfl⟩
  ·cases _e
  ·cases _e
  ·cases _e
  ·cases _e
  ·cases _e
  ·cases _e
  ·cases _e
  ·cases _e
  ·cases _e
  ·cases _e) fits1
end Go.Proofs.YtlfiejdnlcbpgaaGreatDoor
