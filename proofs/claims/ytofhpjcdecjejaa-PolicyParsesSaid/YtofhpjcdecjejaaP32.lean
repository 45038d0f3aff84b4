/- Conditions in both parsers. -/
import Derived.Test.YtofhpjcdecjejaaP31
set_option linter.unusedVariables false
set_option linter.unusedSimpArgs false
namespace Tdoc
open Go Go.Proofs

theorem Right.le {text : List UInt8} {ws : List Wd} {bro : Int} {s : PS} {rs : RS} (h : Right text ws bro s rs) : rs.i ≤ ws.length := by
  rcases h.now with hn | hn
  · have := hn.lt; omega
  · rw [hn.1]; omega

theorem series_rel {text : List UInt8} {ws : List Wd} {bro : Int} {n n' : Nat} {part : PS → Cond × PS} {partR : RS → Cond × RS} (hr : PRel text ws bro n n' part partR) (hp : PartOk text n part) (hpR : POk ws n' partR) (kind : Int) {w : List UInt8} (hw : Real w) :
    PRel text ws bro n n' (seriesP text kind w part) (seriesR ws kind w partR) := by
  refine ⟨fun s rs h h1 h2 => ?_, fun s rs h => ?_⟩
  · obtain ⟨q1, q2, q3⟩ := hp.inv s h.inv h1
    obtain ⟨r1, r2, r3⟩ := hpR.inv rs h.le h2
    unfold seriesP seriesR
    rcases hr.right s rs h h1 h2 with ⟨v1, v2⟩ | v1
    · by_cases he : peekR ws (partR rs).2 = w
      · have hnt := (v1.peek hw).2 he
        rw [if_neg (by rw [v1.wr]; simp; exact hnt)]
        have hl := loop_rel hr hp hpR kind hw (text.length + 1) (ws.length + 1) [(partR rs).1] _ _ v1 (by omega) (by omega) (by omega) (by omega)
        rw [flatL_one, ← v2] at hl
        rcases hl with ⟨x1, x2, x3⟩ | x1
        · left
          rw [← v2]
          refine ⟨x1, ?_⟩
          simp only
          rw [x2]
          rw [if_pos he] at x3
          generalize (loopR ws w partR (ws.length + 1) [(part s).1] (partR rs).2).1 = L at x3
          unfold joinR
          split
          · simp at x3
          · rfl
        · right; rw [← v2]; exact x1
      · left
        rw [if_pos (.inl fun hh => he ((v1.peek hw).1 hh))]
        have e1 : loopR ws w partR (ws.length + 1) [(partR rs).1] (partR rs).2 = ([(partR rs).1], (partR rs).2) := by
          rw [loopR, if_neg (fun hh => he hh.2)]
        rw [e1]
        exact ⟨v1, v2⟩
    · right
      rw [if_pos (.inr v1.1), loopR_wrong v1.2.1]
      exact v1
  · have v1 := hr.wrong s rs h
    unfold seriesP seriesR
    rw [if_pos (.inr v1.1), loopR_wrong v1.2.1]
    exact v1

theorem real_not : Real notW := ⟨by decide, fun c h => by simp [notW] at h⟩
theorem real_and : Real andW := ⟨by decide, fun c h => by simp [andW] at h⟩
theorem real_or : Real orW := ⟨by decide, fun c h => by simp [orW] at h⟩
theorem real_is : Real isW := ⟨by decide, fun c h => by simp [isW] at h⟩
theorem real_if : Real ifW := ⟨by decide, fun c h => by simp [ifW] at h⟩
theorem real_lp : Real lpW := ⟨by decide, fun c h => by simp [lpW] at h; simp [← h]⟩
theorem real_rp : Real rpW := ⟨by decide, fun c h => by simp [rpW] at h; simp [← h]⟩
theorem real_sc : Real scW := ⟨by decide, fun c h => by simp [scW] at h; simp [← h]⟩
theorem real_long {w : List UInt8} (h : 2 ≤ w.length) : Real w := ⟨by rintro rfl; simp at h, fun c hc => by subst hc; simp at h⟩
theorem real_chk : ∀ w, w ∈ chk → Real w := fun w hw => real_long ((by decide : ∀ w, w ∈ chk → 2 ≤ w.length) w hw)
theorem real_vls : ∀ w, w ∈ vls → Real w := fun w hw => real_long ((by decide : ∀ w, w ∈ vls → 2 ≤ w.length) w hw)
theorem real_vds : ∀ w, w ∈ vds → Real w := fun w hw => real_long ((by decide : ∀ w, w ∈ vds → 2 ≤ w.length) w hw)
end Tdoc
