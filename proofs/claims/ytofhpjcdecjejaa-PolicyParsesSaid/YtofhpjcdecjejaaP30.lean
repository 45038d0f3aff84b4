/- What each parser does at one word: is, one, need. -/
import Derived.Test.YtofhpjcdecjejaaP29
set_option linter.unusedVariables false
set_option linter.unusedSimpArgs false
namespace Tdoc
open Go Go.Proofs

section
variable {text : List UInt8} {ws : List Wd} {bro : Int} {s : PS} {rs : RS}

theorem Right.isT (h : Right text ws bro s rs) {w : List UInt8} (hw : Real w) (he : peekR ws rs = w) : isP text s w = (true, nextP text s) ∧ Right text ws bro (nextP text s) rs.inc := by
  have hn := h.word hw he
  refine ⟨?_, h.next hn⟩
  unfold isP
  rw [if_neg (by rw [h.wr]; simp; exact (h.peek hw).2 he)]
theorem Right.isF (h : Right text ws bro s rs) {w : List UInt8} (hw : Real w) (he : peekR ws rs ≠ w) : isP text s w = (false, s) := by
  unfold isP
  rw [if_pos (.inr fun hh => he ((h.peek hw).1 hh))]

theorem Right.idx (h : Right text ws bro s rs) {l : List (List UInt8)} (hl : ∀ w, w ∈ l → Real w) : sIdx l s.nt = sIdx l (peekR ws rs) := by
  rcases h.now with hn | hn
  · rw [hn.peek]
  · rw [hn.peek]
    have e1 : sIdx l s.nt = -1 := sIdx_none fun j hj hh => hn.2.2.1.ne (hl _ (List.getElem_mem hj)) hh.symm
    have e2 : sIdx l [] = -1 := sIdx_none fun j hj hh => (hl _ (List.getElem_mem hj)).1 hh
    rw [e1, e2]

theorem Wrong.inc (h : Wrong s rs) : Wrong s rs.inc := h
theorem Wrong.needP (h : Wrong s rs) (text : List UInt8) (ws : List Wd) (w : List UInt8) : Wrong (needP text s w) (takeR ws rs w) := by
  have e1 : Tdoc.needP text s w = s := by
    unfold Tdoc.needP; rw [isP_wr h.1]
    cases s; simp only [Wrong] at h; simp [h.1]
  have e2 : (takeR ws rs w).bad = rs.bad := by unfold takeR; rw [if_neg (by have := h.2.1; omega)]
  rw [e1]
  exact ⟨h.1, by rw [e2]; exact h.2.1, by rw [e2]; exact h.2.2⟩

theorem Right.needP (h : Right text ws bro s rs) (hb : bro = -1 ∨ 0 ≤ bro) {w : List UInt8} (hw : Real w) : Right text ws bro (needP text s w) (takeR ws rs w) ∨ Wrong (needP text s w) (takeR ws rs w) := by
  by_cases he : peekR ws rs = w
  · left
    obtain ⟨h1, h2⟩ := h.isT hw he
    have e2 : takeR ws rs w = rs.inc := by unfold takeR; rw [if_neg (fun hh => hh.2 he)]; rfl
    unfold Tdoc.needP
    rw [h1, e2]
    exact h2
  · right
    have e2 : takeR ws rs w = { failR ws rs with i := rs.i + 1 } := by unfold takeR; rw [if_pos ⟨h.bad, he⟩]
    unfold Tdoc.needP
    rw [h.isF hw he, e2]
    exact h.fail hb
end
end Tdoc
