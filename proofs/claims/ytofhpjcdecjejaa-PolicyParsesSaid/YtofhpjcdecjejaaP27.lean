/- The program's next word is the reference's. -/
import Derived.Test.YtofhpjcdecjejaaP26
set_option linter.unusedVariables false
set_option linter.unusedSimpArgs false
namespace Tdoc
open Go Go.Proofs

theorem skip_head : ∀ (b : Bool) (l : List UInt8) (c : UInt8) (r : List UInt8), l.drop (skipS b l) = c :: r → c ≠ 32 ∧ c ≠ 10 ∧ c ≠ 35
  | _, [], c, r, h => by simp at h
  | false, x :: l, c, r, h => by
    by_cases h1 : x = 32 ∨ x = 10
    · simp only [skipS, if_pos h1, List.drop_succ_cons] at h
      exact skip_head false l c r h
    · by_cases h2 : x = 35
      · simp only [skipS, if_neg h1, if_pos h2, List.drop_succ_cons] at h
        exact skip_head true l c r h
      · simp only [skipS, if_neg h1, if_neg h2, List.drop_zero] at h
        obtain ⟨rfl, rfl⟩ := List.cons.inj h
        exact ⟨fun hh => h1 (.inl hh), fun hh => h1 (.inr hh), h2⟩
  | true, x :: l, c, r, h => by
    by_cases h1 : x = 10
    · simp only [skipS, if_pos h1, List.drop_succ_cons] at h
      exact skip_head false l c r h
    · simp only [skipS, if_neg h1, List.drop_succ_cons] at h
      exact skip_head true l c r h

/-- A text that is no word. -/
def Junk (nt : List UInt8) : Prop := nt = [] ∨ ∃ c, nt = [c] ∧ isLow c = false ∧ c ≠ 40 ∧ c ≠ 41 ∧ c ≠ 59

theorem next_words (text : List UInt8) (s : PS) (h : s.a ≤ text.length) :
    (wf text s.a = (((nextP text s).nt, (nextP text s).na) :: (wf text (nextP text s).a).1, (wf text (nextP text s).a).2) ∧ (nextP text s).nt ≠ []) ∨
    ((wf text s.a).1 = [] ∧ (nextP text s).na = endR text (wf text s.a).2 ∧ Junk (nextP text s).nt ∧ (((nextP text s).nt = [] ∧ (wf text s.a).2 = -1) ∨ ((nextP text s).nt ≠ [] ∧ 0 ≤ (wf text s.a).2))) := by
  have hle := skipS_le false (text.drop s.a)
  simp only [List.length_drop] at hle
  have hhead := skip_head false (text.drop s.a)
  rw [wf_skip text (text.length + 1) s.a (by omega)]
  simp only [nextP]
  rw [List.drop_drop] at hhead
  have hq : s.a + skipS false (text.drop s.a) ≤ text.length := by omega
  generalize s.a + skipS false (text.drop s.a) = q at hq hhead ⊢
  rw [wf_eq text q]
  cases hd : text.drop q with
  | nil =>
    right
    have : q = text.length := by have := congrArg List.length hd; simp at this; omega
    exact ⟨by simp, by simp [endR, this], .inl (by simp), .inl ⟨by simp, rfl⟩⟩
  | cons c r =>
    obtain ⟨h1, h2, h3⟩ := hhead c r hd
    have h12 : ¬ (c = 32 ∨ c = 10) := by rintro (hh | hh) <;> contradiction
    simp only [if_neg h12, if_neg h3]
    by_cases h4 : (c = 40 ∨ c = 41) ∨ c = 59
    · left
      have hlow : ¬ isLow c = true := by rcases h4 with (rfl | rfl) | rfl <;> decide
      have hw : wlen (c :: r) = 1 := by simp [wlen, lets, hlow]
      simp only [if_pos h4, hw]
      simp
    · by_cases h5 : isLow c = true
      · left
        have hl : lets (c :: r) = lets r + 1 := by rw [lets, if_pos h5]
        have hw : wlen (c :: r) = lets (c :: r) := by simp [wlen, hl]
        simp only [if_neg h4, if_pos h5, hw]
        simp [hl]
      · right
        have hw : wlen (c :: r) = 1 := by simp [wlen, lets, h5]
        simp only [if_neg h4, if_neg h5, hw]
        refine ⟨by simp, by simp [endR], .inr ⟨c, by simp, by simpa using h5, fun hh => h4 (.inl (.inl hh)), fun hh => h4 (.inl (.inr hh)), fun hh => h4 (.inr hh)⟩, .inr ⟨by simp, by simp⟩⟩
end Tdoc
