/-
  DERIVED. GIVEN WITH THE SEED: THE PROGRAM's TIES (one call each: nine closed facts by the kernel) AND EACH ROW's TIE, after the 31st guide's Derived/Test/Toyas{Tie, Card}.lean. No idea stands in it: it is a product of the set-up. Laid BY PROGRAM, IN A SANDBOX (cutbox-door.mjs). By AI agents, Wed Nov 11 2026. No macro, syntax, notation, axiom, sorry.
-/
import Derived.Test.YtelocejblpajcaaGreatDoorRows
import Derived.LaidByTextLater
import Derived.SevenTiedAt
import Derived.LaidSub
import Derived.LaidOnce
namespace Go.Proofs.YtelocejblpajcaaGreatDoor
open Go
set_option maxRecDepth 100000
theorem seatTie1 : Tryz.prog.laidByTextLater [("traveldoc/dates.lengths", Rows.laid_traveldoc_dates_lengths), ("traveldoc/traveldocref04.constants", Rows.laid_traveldoc_traveldocref04_constants), ("traveldoc/traveldocref15.tags", Rows.laid_traveldoc_traveldocref15_tags), ("unicode/utf8.acceptRanges", Rows.laid_unicode_utf8_acceptRanges), ("traveldoc/digest.constants", Rows.laid_traveldoc_digest_constants), ("traveldoc/securityinfo.endings", Rows.laid_traveldoc_securityinfo_endings), ("traveldoc/datagroups.tags", Rows.laid_traveldoc_datagroups_tags)] [.data, .data, .data, .data, .data, .data, .data] true :=
  Program.laidByTextLater_by_one 54 8 65 (by kernel_rfl) (by kernel_rfl) (by kernel_rfl) (by kernel_rfl) (by kernel_rfl) (by kernel_rfl) (fun _ _ => by kernel_rfl)
theorem pin_laid_unicode_utf8_first : Tryz.pinned.checked.prog.pinnedFits "unicode/utf8.first" = true := by kernel_rfl
theorem noOwnUnsafe : Tryz.pinned.checked.prog.headLifts.contains "ownunsafe" = false := by kernel_rfl
theorem fits1 : Tryz.pinned.checked.prog.listedFits [("traveldoc/dates.lengths", Rows.laid_traveldoc_dates_lengths), ("traveldoc/traveldocref04.constants", Rows.laid_traveldoc_traveldocref04_constants), ("traveldoc/traveldocref15.tags", Rows.laid_traveldoc_traveldocref15_tags), ("unicode/utf8.acceptRanges", Rows.laid_unicode_utf8_acceptRanges), ("traveldoc/digest.constants", Rows.laid_traveldoc_digest_constants), ("traveldoc/securityinfo.endings", Rows.laid_traveldoc_securityinfo_endings), ("traveldoc/datagroups.tags", Rows.laid_traveldoc_datagroups_tags), ("unicode/utf8.first", Rows.laid_unicode_utf8_first)] = true := by
  unfold Program.listedFits
  rw [noOwnUnsafe]
  kernel_rfl
theorem tie : Tryz.prog.laidByTextLater [("traveldoc/dates.lengths", Rows.laid_traveldoc_dates_lengths), ("traveldoc/traveldocref04.constants", Rows.laid_traveldoc_traveldocref04_constants), ("traveldoc/traveldocref15.tags", Rows.laid_traveldoc_traveldocref15_tags), ("unicode/utf8.acceptRanges", Rows.laid_unicode_utf8_acceptRanges), ("traveldoc/digest.constants", Rows.laid_traveldoc_digest_constants), ("traveldoc/securityinfo.endings", Rows.laid_traveldoc_securityinfo_endings), ("traveldoc/datagroups.tags", Rows.laid_traveldoc_datagroups_tags)] [.data, .data, .data, .data, .data, .data, .data] true :=
  Program.laidByTextLater.sub seatTie1 ["traveldoc/dates.lengths", "traveldoc/traveldocref04.constants", "traveldoc/traveldocref15.tags", "unicode/utf8.acceptRanges", "traveldoc/digest.constants", "traveldoc/securityinfo.endings", "traveldoc/datagroups.tags"] (by kernel_rfl) (by kernel_rfl)
theorem issuanceMakes_row_tie : Rows.issuanceMakesRow.laidByTextAt .later Tryz.pinned [.data, .data, .data, .data, .data, .data, .data, .pinned] true :=
  OpenClaim.laidByTextAt_pinned rfl rfl tie rfl rfl rfl rfl (fun y hy _e => by
    simp only [Rows.issuanceMakesRow, List.zip_cons_cons, List.zip_nil_right, List.mem_cons, List.mem_nil_iff, or_false] at hy
    rcases hy with rfl | rfl | rfl | rfl | rfl | rfl | rfl | rfl
    · cases _e
    · cases _e
    · cases _e
    · cases _e
    · cases _e
    · cases _e
    · cases _e
    · exact ⟨pin_laid_unicode_utf8_first, by kernel_rfl⟩) fits1
theorem fits2 : Tryz.pinned.checked.prog.listedFits [("traveldoc/dates.lengths", Rows.laid_traveldoc_dates_lengths), ("traveldoc/traveldocref04.constants", Rows.laid_traveldoc_traveldocref04_constants), ("unicode/utf8.acceptRanges", Rows.laid_unicode_utf8_acceptRanges), ("traveldoc/digest.constants", Rows.laid_traveldoc_digest_constants), ("traveldoc/securityinfo.endings", Rows.laid_traveldoc_securityinfo_endings), ("traveldoc/datagroups.tags", Rows.laid_traveldoc_datagroups_tags), ("unicode/utf8.first", Rows.laid_unicode_utf8_first)] = true := by
  unfold Program.listedFits
  rw [noOwnUnsafe]
  kernel_rfl
theorem tie2 : Tryz.prog.laidByTextLater [("traveldoc/dates.lengths", Rows.laid_traveldoc_dates_lengths), ("traveldoc/traveldocref04.constants", Rows.laid_traveldoc_traveldocref04_constants), ("unicode/utf8.acceptRanges", Rows.laid_unicode_utf8_acceptRanges), ("traveldoc/digest.constants", Rows.laid_traveldoc_digest_constants), ("traveldoc/securityinfo.endings", Rows.laid_traveldoc_securityinfo_endings), ("traveldoc/datagroups.tags", Rows.laid_traveldoc_datagroups_tags)] [.data, .data, .data, .data, .data, .data] true :=
  Program.laidByTextLater.sub seatTie1 ["traveldoc/dates.lengths", "traveldoc/traveldocref04.constants", "unicode/utf8.acceptRanges", "traveldoc/digest.constants", "traveldoc/securityinfo.endings", "traveldoc/datagroups.tags"] (by kernel_rfl) (by kernel_rfl)
theorem issuanceBegins_row_tie : Rows.issuanceBeginsRow.laidByTextAt .later Tryz.pinned [.data, .data, .data, .data, .data, .data, .pinned] true :=
  OpenClaim.laidByTextAt_pinned rfl rfl tie2 rfl rfl rfl rfl (fun y hy _e => by
    simp only [Rows.issuanceBeginsRow, List.zip_cons_cons, List.zip_nil_right, List.mem_cons, List.mem_nil_iff, or_false] at hy
    rcases hy with rfl | rfl | rfl | rfl | rfl | rfl | rfl
    · cases _e
    · cases _e
    · cases _e
    · cases _e
    · cases _e
    · cases _e
    · exact ⟨pin_laid_unicode_utf8_first, by kernel_rfl⟩) fits2
theorem issuanceTrusted_row_tie : Rows.issuanceTrustedRow.laidByTextAt .later Tryz.pinned [.data, .data, .data, .data, .data, .data, .pinned] true :=
  OpenClaim.laidByTextAt_pinned rfl rfl tie2 rfl rfl rfl rfl (fun y hy _e => by
    simp only [Rows.issuanceTrustedRow, List.zip_cons_cons, List.zip_nil_right, List.mem_cons, List.mem_nil_iff, or_false] at hy
    rcases hy with rfl | rfl | rfl | rfl | rfl | rfl | rfl
    · cases _e
    · cases _e
    · cases _e
    · cases _e
    · cases _e
    · cases _e
    · exact ⟨pin_laid_unicode_utf8_first, by kernel_rfl⟩) fits2
theorem issuanceMakesUpto_row_tie : Rows.issuanceMakesUptoRow.laidByTextAt .later Tryz.pinned [.data, .data, .data, .data, .data, .data, .data, .pinned] true :=
  OpenClaim.laidByTextAt_pinned rfl rfl tie rfl rfl rfl rfl (fun y hy _e => by
    simp only [Rows.issuanceMakesUptoRow, List.zip_cons_cons, List.zip_nil_right, List.mem_cons, List.mem_nil_iff, or_false] at hy
    rcases hy with rfl | rfl | rfl | rfl | rfl | rfl | rfl | rfl
    · cases _e
    · cases _e
    · cases _e
    · cases _e
    · cases _e
    · cases _e
    · cases _e
    · exact ⟨pin_laid_unicode_utf8_first, by kernel_rfl⟩) fits1
theorem issuanceBeginsUpto_row_tie : Rows.issuanceBeginsUptoRow.laidByTextAt .later Tryz.pinned [.data, .data, .data, .data, .data, .data, .pinned] true :=
  OpenClaim.laidByTextAt_pinned rfl rfl tie2 rfl rfl rfl rfl (fun y hy _e => by
    simp only [Rows.issuanceBeginsUptoRow, List.zip_cons_cons, List.zip_nil_right, List.mem_cons, List.mem_nil_iff, or_false] at hy
    rcases hy with rfl | rfl | rfl | rfl | rfl | rfl | rfl
    · cases _e
    · cases _e
    · cases _e
    · cases _e
    · cases _e
    · cases _e
    · exact ⟨pin_laid_unicode_utf8_first, by kernel_rfl⟩) fits2
theorem issuanceTrustedUpto_row_tie : Rows.issuanceTrustedUptoRow.laidByTextAt .later Tryz.pinned [.data, .data, .data, .data, .data, .data, .pinned] true :=
  OpenClaim.laidByTextAt_pinned rfl rfl tie2 rfl rfl rfl rfl (fun y hy _e => by
    simp only [Rows.issuanceTrustedUptoRow, List.zip_cons_cons, List.zip_nil_right, List.mem_cons, List.mem_nil_iff, or_false] at hy
    rcases hy with rfl | rfl | rfl | rfl | rfl | rfl | rfl
    · cases _e
    · cases _e
    · cases _e
    · cases _e
    · cases _e
    · cases _e
    · exact ⟨pin_laid_unicode_utf8_first, by kernel_rfl⟩) fits2
end Go.Proofs.YtelocejblpajcaaGreatDoor
