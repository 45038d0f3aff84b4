/-
  DERIVED. GIVEN WITH THE SEED: THE PROGRAM's TIES (one call each: nine closed facts by the kernel) AND EACH ROW's TIE, after the 31st guide's Derived/Test/Toyas{Tie, Card}.lean. No idea stands in it: it is a product of the set-up. Laid BY PROGRAM, IN A SANDBOX (cutbox-door.mjs). By AI agents, Wed Nov 11 2026. No macro, syntax, notation, axiom, sorry.
-/
import Derived.Test.YtnjanpmgonoeeaaGreatDoorRows
import Derived.LaidByTextLater
import Derived.SevenTiedAt
import Derived.LaidSub
import Derived.LaidOnce
namespace Go.Proofs.YtnjanpmgonoeeaaGreatDoor
open Go
set_option maxRecDepth 100000
theorem seatTie1 : Tryz.prog.laidByTextLater [("traveldoc/dates.lengths", Rows.laid_traveldoc_dates_lengths), ("traveldoc/traveldocref15.tags", Rows.laid_traveldoc_traveldocref15_tags), ("unicode/utf8.acceptRanges", Rows.laid_unicode_utf8_acceptRanges), ("traveldoc/securityinfo.endings", Rows.laid_traveldoc_securityinfo_endings), ("traveldoc/datagroups.tags", Rows.laid_traveldoc_datagroups_tags)] [.data, .data, .data, .data, .data] true :=
  Program.laidByTextLater_by_one 44 8 33 (by kernel_rfl) (by kernel_rfl) (by kernel_rfl) (by kernel_rfl) (by kernel_rfl) (by kernel_rfl) (fun _ _ => by kernel_rfl)
theorem pin_laid_unicode_utf8_first : Tryz.pinned.checked.prog.pinnedFits "unicode/utf8.first" = true := by kernel_rfl
theorem noOwnUnsafe : Tryz.pinned.checked.prog.headLifts.contains "ownunsafe" = false := by kernel_rfl
theorem tie : Tryz.prog.laidByTextLater [("traveldoc/traveldocref15.tags", Rows.laid_traveldoc_traveldocref15_tags), ("traveldoc/datagroups.tags", Rows.laid_traveldoc_datagroups_tags)] [.data, .data] true :=
  Program.laidByTextLater.sub seatTie1 ["traveldoc/traveldocref15.tags", "traveldoc/datagroups.tags"] (by kernel_rfl) (by kernel_rfl)
theorem datagroupsForms_row_tie : Rows.datagroupsFormsRow.laidByTextAt .later Tryz.pinned [.data, .data] true :=
  OpenClaim.laidByTextAt_later rfl rfl tie noOwnUnsafe
theorem fits2 : Tryz.pinned.checked.prog.listedFits [("traveldoc/dates.lengths", Rows.laid_traveldoc_dates_lengths), ("traveldoc/traveldocref15.tags", Rows.laid_traveldoc_traveldocref15_tags), ("unicode/utf8.acceptRanges", Rows.laid_unicode_utf8_acceptRanges), ("traveldoc/securityinfo.endings", Rows.laid_traveldoc_securityinfo_endings), ("traveldoc/datagroups.tags", Rows.laid_traveldoc_datagroups_tags), ("unicode/utf8.first", Rows.laid_unicode_utf8_first)] = true := by
  unfold Program.listedFits
  rw [noOwnUnsafe]
  kernel_rfl
theorem tie2 : Tryz.prog.laidByTextLater [("traveldoc/dates.lengths", Rows.laid_traveldoc_dates_lengths), ("traveldoc/traveldocref15.tags", Rows.laid_traveldoc_traveldocref15_tags), ("unicode/utf8.acceptRanges", Rows.laid_unicode_utf8_acceptRanges), ("traveldoc/securityinfo.endings", Rows.laid_traveldoc_securityinfo_endings), ("traveldoc/datagroups.tags", Rows.laid_traveldoc_datagroups_tags)] [.data, .data, .data, .data, .data] true :=
  Program.laidByTextLater.sub seatTie1 ["traveldoc/dates.lengths", "traveldoc/traveldocref15.tags", "unicode/utf8.acceptRanges", "traveldoc/securityinfo.endings", "traveldoc/datagroups.tags"] (by kernel_rfl) (by kernel_rfl)
theorem datagroupsWrites_row_tie : Rows.datagroupsWritesRow.laidByTextAt .later Tryz.pinned [.data, .data, .data, .data, .data, .pinned] true :=
  OpenClaim.laidByTextAt_pinned rfl rfl tie2 rfl rfl rfl rfl (fun y hy _e => by
    simp only [Rows.datagroupsWritesRow, List.zip_cons_cons, List.zip_nil_right, List.mem_cons, List.mem_nil_iff, or_false] at hy
    rcases hy with rfl | rfl | rfl | rfl | rfl | rfl
    · cases _e
    · cases _e
    · cases _e
    · cases _e
    · cases _e
    · exact ⟨pin_laid_unicode_utf8_first, by kernel_rfl⟩) fits2
theorem datagroupsOpens_row_tie : Rows.datagroupsOpensRow.laidByTextAt .later Tryz.pinned [.data, .data, .data, .data, .data, .pinned] true :=
  OpenClaim.laidByTextAt_pinned rfl rfl tie2 rfl rfl rfl rfl (fun y hy _e => by
    simp only [Rows.datagroupsOpensRow, List.zip_cons_cons, List.zip_nil_right, List.mem_cons, List.mem_nil_iff, or_false] at hy
    rcases hy with rfl | rfl | rfl | rfl | rfl | rfl
    · cases _e
    · cases _e
    · cases _e
    · cases _e
    · cases _e
    · exact ⟨pin_laid_unicode_utf8_first, by kernel_rfl⟩) fits2
theorem datagroupsOpensMade_row_tie : Rows.datagroupsOpensMadeRow.laidByTextAt .later Tryz.pinned [.data, .data, .data, .data, .data, .pinned] true :=
  OpenClaim.laidByTextAt_pinned rfl rfl tie2 rfl rfl rfl rfl (fun y hy _e => by
    simp only [Rows.datagroupsOpensMadeRow, List.zip_cons_cons, List.zip_nil_right, List.mem_cons, List.mem_nil_iff, or_false] at hy
    rcases hy with rfl | rfl | rfl | rfl | rfl | rfl
    · cases _e
    · cases _e
    · cases _e
    · cases _e
    · cases _e
    · exact ⟨pin_laid_unicode_utf8_first, by kernel_rfl⟩) fits2
theorem fits3 : Tryz.pinned.checked.prog.listedFits [("traveldoc/dates.lengths", Rows.laid_traveldoc_dates_lengths), ("unicode/utf8.acceptRanges", Rows.laid_unicode_utf8_acceptRanges), ("traveldoc/securityinfo.endings", Rows.laid_traveldoc_securityinfo_endings), ("traveldoc/datagroups.tags", Rows.laid_traveldoc_datagroups_tags), ("unicode/utf8.first", Rows.laid_unicode_utf8_first)] = true := by
  unfold Program.listedFits
  rw [noOwnUnsafe]
  kernel_rfl
theorem tie3 : Tryz.prog.laidByTextLater [("traveldoc/dates.lengths", Rows.laid_traveldoc_dates_lengths), ("unicode/utf8.acceptRanges", Rows.laid_unicode_utf8_acceptRanges), ("traveldoc/securityinfo.endings", Rows.laid_traveldoc_securityinfo_endings), ("traveldoc/datagroups.tags", Rows.laid_traveldoc_datagroups_tags)] [.data, .data, .data, .data] true :=
  Program.laidByTextLater.sub seatTie1 ["traveldoc/dates.lengths", "unicode/utf8.acceptRanges", "traveldoc/securityinfo.endings", "traveldoc/datagroups.tags"] (by kernel_rfl) (by kernel_rfl)
theorem datagroupsReturns_row_tie : Rows.datagroupsReturnsRow.laidByTextAt .later Tryz.pinned [.data, .data, .data, .data, .pinned] true :=
  OpenClaim.laidByTextAt_pinned rfl rfl tie3 rfl rfl rfl rfl (fun y hy _e => by
    simp only [Rows.datagroupsReturnsRow, List.zip_cons_cons, List.zip_nil_right, List.mem_cons, List.mem_nil_iff, or_false] at hy
    rcases hy with rfl | rfl | rfl | rfl | rfl
    · cases _e
    · cases _e
    · cases _e
    · cases _e
    · exact ⟨pin_laid_unicode_utf8_first, by kernel_rfl⟩) fits3
theorem datagroupsFormsUpto_row_tie : Rows.datagroupsFormsUptoRow.laidByTextAt .later Tryz.pinned [.data, .data] true :=
  OpenClaim.laidByTextAt_later rfl rfl tie noOwnUnsafe
theorem datagroupsWritesUpto_row_tie : Rows.datagroupsWritesUptoRow.laidByTextAt .later Tryz.pinned [.data, .data, .data, .data, .data, .pinned] true :=
  OpenClaim.laidByTextAt_pinned rfl rfl tie2 rfl rfl rfl rfl (fun y hy _e => by
    simp only [Rows.datagroupsWritesUptoRow, List.zip_cons_cons, List.zip_nil_right, List.mem_cons, List.mem_nil_iff, or_false] at hy
    rcases hy with rfl | rfl | rfl | rfl | rfl | rfl
    · cases _e
    · cases _e
    · cases _e
    · cases _e
    · cases _e
    · exact ⟨pin_laid_unicode_utf8_first, by kernel_rfl⟩) fits2
theorem datagroupsOpensUpto_row_tie : Rows.datagroupsOpensUptoRow.laidByTextAt .later Tryz.pinned [.data, .data, .data, .data, .data, .pinned] true :=
  OpenClaim.laidByTextAt_pinned rfl rfl tie2 rfl rfl rfl rfl (fun y hy _e => by
    simp only [Rows.datagroupsOpensUptoRow, List.zip_cons_cons, List.zip_nil_right, List.mem_cons, List.mem_nil_iff, or_false] at hy
    rcases hy with rfl | rfl | rfl | rfl | rfl | rfl
    · cases _e
    · cases _e
    · cases _e
    · cases _e
    · cases _e
    · exact ⟨pin_laid_unicode_utf8_first, by kernel_rfl⟩) fits2
theorem datagroupsOpensMadeUpto_row_tie : Rows.datagroupsOpensMadeUptoRow.laidByTextAt .later Tryz.pinned [.data, .data, .data, .data, .data, .pinned] true :=
  OpenClaim.laidByTextAt_pinned rfl rfl tie2 rfl rfl rfl rfl (fun y hy _e => by
    simp only [Rows.datagroupsOpensMadeUptoRow, List.zip_cons_cons, List.zip_nil_right, List.mem_cons, List.mem_nil_iff, or_false] at hy
    rcases hy with rfl | rfl | rfl | rfl | rfl | rfl
    · cases _e
    · cases _e
    · cases _e
    · cases _e
    · cases _e
    · exact ⟨pin_laid_unicode_utf8_first, by kernel_rfl⟩) fits2
theorem datagroupsReturnsUpto_row_tie : Rows.datagroupsReturnsUptoRow.laidByTextAt .later Tryz.pinned [.data, .data, .data, .data, .pinned] true :=
  OpenClaim.laidByTextAt_pinned rfl rfl tie3 rfl rfl rfl rfl (fun y hy _e => by
    simp only [Rows.datagroupsReturnsUptoRow, List.zip_cons_cons, List.zip_nil_right, List.mem_cons, List.mem_nil_iff, or_false] at hy
    rcases hy with rfl | rfl | rfl | rfl | rfl
    · cases _e
    · cases _e
    · cases _e
    · cases _e
    · exact ⟨pin_laid_unicode_utf8_first, by kernel_rfl⟩) fits3
end Go.Proofs.YtnjanpmgonoeeaaGreatDoor
