/- What each parser does at one word. -/
import Derived.Test.YtofhpjcdecjejaaP28
set_option linter.unusedVariables false
set_option linter.unusedSimpArgs false
namespace Tdoc
open Go Go.Proofs

theorem NowW.peek {text : List UInt8} {ws : List Wd} {bro : Int} {s : PS} {rs : RS} (h : NowW text ws bro s rs.i) : peekR ws rs = s.nt := by
  unfold peekR; rw [h.1]
theorem NowE.peek {text : List UInt8} {ws : List Wd} {bro : Int} {s : PS} {rs : RS} (h : NowE text ws bro s rs.i) : peekR ws rs = [] := by
  unfold peekR; rw [List.getElem?_eq_none (by rw [h.1]; omega)]

/-- A text that a word can be. -/
def Real (w : List UInt8) : Prop := w ≠ [] ∧ ∀ c, w = [c] → isLow c = true ∨ c = 40 ∨ c = 41 ∨ c = 59

theorem Junk.ne {nt w : List UInt8} (h : Junk nt) (hw : Real w) : nt ≠ w := by
  rintro rfl
  rcases h with h | ⟨c, h1, h2, h3, h4, h5⟩
  · exact hw.1 h
  · rcases hw.2 c h1 with q | q | q | q
    · rw [h2] at q; cases q
    · exact h3 q
    · exact h4 q
    · exact h5 q

theorem Right.peek {text : List UInt8} {ws : List Wd} {bro : Int} {s : PS} {rs : RS} (h : Right text ws bro s rs) {w : List UInt8} (hw : Real w) : (s.nt = w ↔ peekR ws rs = w) := by
  rcases h.now with hn | hn
  · rw [hn.peek]
  · rw [hn.peek]
    exact ⟨fun hh => absurd hh (hn.2.2.1.ne hw), fun hh => absurd hh.symm hw.1⟩

/-- The next word stands there, if it is a word at all. -/
theorem Right.word {text : List UInt8} {ws : List Wd} {bro : Int} {s : PS} {rs : RS} (h : Right text ws bro s rs) {w : List UInt8} (hw : Real w) (he : peekR ws rs = w) : NowW text ws bro s rs.i := by
  rcases h.now with hn | hn
  · exact hn
  · rw [hn.peek] at he; exact absurd he.symm hw.1

theorem Right.fail {text : List UInt8} {ws : List Wd} {bro : Int} {s : PS} {rs : RS} (h : Right text ws bro s rs) (hb : bro = -1 ∨ 0 ≤ bro) : Wrong { s with wr := true } (failR ws rs) := by
  unfold failR
  rw [if_pos h.bad]
  rcases h.now with hn | hn
  · refine ⟨rfl, ?_, ?_⟩ <;> simp only [hn.1] <;> simp
  · have he : ws[rs.i]? = none := List.getElem?_eq_none (by rw [hn.1]; omega)
    have h2 := hn.2.1
    refine ⟨rfl, ?_, ?_⟩
    · simp only [he, h.en]; rw [← h2]; omega
    · simp only [he, h.en]; exact h2.symm
end Tdoc
