/- The small side conditions of steps, found by a default. No program is named here. -/
import Derived.Test.YtkkfcpohiofinaaDoorB5
set_option linter.unusedSimpArgs false
set_option linter.unusedVariables false
namespace Tdoc
open Go

theorem sd {C : Prop} (h : C := by first | exact True.intro | exact (fun hh => hh) | omega | assumption | (intro hh; rw [hh]; rfl) | (intro hh; simp [gval, hh]; done) | (simp; omega)) : C := h
theorem sg {ex : Bool} {A C : Prop} (hg : ex = true) (h1 : A := by first | exact True.intro | exact ⟨hg, True.intro⟩ | exact ⟨hg, hg, True.intro⟩ | (refine ⟨?_, True.intro⟩; simp at hg; simp [hg]; done) | (refine ⟨?_, ?_, True.intro⟩ <;> (simp at hg; simp [hg]; done))) (h2 : C := by first | exact True.intro | (intro hh; rw [hg, hh]; rfl) | (intro hh; simp [gval, hh, hg]; done) | (intro hh; simp only [gval, hh, hg, Bool.not_false, Bool.not_true, Bool.and_true, Bool.true_and]; done) | (intro hh; simp only [gval] at hg; simp only [gval, hh, hg, Bool.not_false, Bool.and_true, Bool.true_and]; done) | (simp [gval] at hg; first | omega | (simp; done) | (simp; omega))) : A ∧ C := ⟨h1, h2⟩
theorem sm {C : Prop} (h : C := by first | (simp; done) | exact List.mem_cons_self | exact List.mem_cons_of_mem _ List.mem_cons_self) : C := h
end Tdoc
